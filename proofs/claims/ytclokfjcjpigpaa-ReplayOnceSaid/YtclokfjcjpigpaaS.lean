/-
  The reference's cache: Used, Revoked, New.
-/
import Derived.Test.YtclokfjcjpigpaaR
namespace Go.Proofs.Ytclokfjcjpigpaa
open Go.RowKit Go.Maps

theorem RefAt.elemK {w : World} {base r : Nat} {most : Int} {L : List CredD} {K : List (Int × Int)} {lv bv : Value} (h : RefAt w base r most L K lv bv) {k : Nat} (hk : k < K.length) :
    ∃ g cap, bv = .slice (some ⟨g, 0, none⟩) K.length cap ∧ w.cell? ⟨g, k * 2, none⟩ = some (.int .i64 (K[k]'hk).1) ∧ w.cell? ⟨g, k * 2 + 1, none⟩ = some (.int .i64 (K[k]'hk).2) := by
  obtain ⟨h1, h2⟩ := h.back
  rcases h2 with ⟨rfl, h3⟩ | ⟨g, cap, cur, rfl, hg, hb, h3⟩
  · omega
  · have key : ∀ j, j < 2 → w.cell? ⟨g, k * 2 + j, none⟩ = [Value.int .i64 (K[k]'hk).1, .int .i64 (K[k]'hk).2][j]? := fun j hj => by
      have hget := flat_get (fun p : Int × Int => [Value.int .i64 p.1, .int .i64 p.2]) 2 (fun _ => rfl) K k j hk hj
      have hlt : k * 2 + j < K.length * 2 := by omega
      rw [cell_of_row w g (k * 2 + j) cur 62 (0, 0) hb]
      have e1 : cur.toList[k * 2 + j]? = (cur.toList.take (K.length * 2))[k * 2 + j]? := by rw [List.getElem?_take, if_pos hlt]
      rw [← Array.getElem?_toList, e1, h3.2.2.2, hget]
    exact ⟨g, cap, rfl, key 0 (by omega), key 1 (by omega)⟩

def revokedB (K : List (Int × Int)) (job epoch : Int) : Bool := K.any fun p => p.1 == job && decide (epoch ≤ p.2)

theorem revokedB_step {K : List (Int × Int)} {job epoch : Int} {k : Nat} (hk : k < K.length) (h : revokedB K job epoch = revokedB (K.drop k) job epoch) (hn : ((K[k]'hk).1 == job && decide (epoch ≤ (K[k]'hk).2)) = false) : revokedB K job epoch = revokedB (K.drop (k + 1)) job epoch := by
  rw [h, List.drop_eq_getElem_cons hk]
  unfold revokedB
  rw [List.any_cons, hn, Bool.false_or]
theorem revokedB_hit {K : List (Int × Int)} {job epoch : Int} {k : Nat} (hk : k < K.length) (h : revokedB K job epoch = revokedB (K.drop k) job epoch) (hn : ((K[k]'hk).1 == job && decide (epoch ≤ (K[k]'hk).2)) = true) : revokedB K job epoch = true := by
  rw [h, List.drop_eq_getElem_cons hk]
  unfold revokedB
  rw [List.any_cons, hn, Bool.true_or]

set_option maxHeartbeats 1000000 in
theorem revoked17_any (w : World) (base r : Nat) (most : Int) (L : List CredD) (K : List (Int × Int)) (lv bv : Value) (h : RefAt w base r most L K lv bv) (hK : K.length ≤ 1000) (x : CredD) (res : Bool) (hres : Hid (res = revokedB K x.job x.epoch)) :
    Calls Try.prog 17 #[.pointer (some ⟨r, 0, none⟩), x.val] w fun e w' => e = .returned (.bool res) ∧ Fr (fun _ => False) w w' := by
  have HH := Lib.hid h
  have hr := h.blk.lt
  obtain ⟨job, epoch, step, frm, unt, A, c, ns, cores⟩ := x
  simp only [CredD.val] at *
  have HB := Lib.hid (Blk.new w 31 #[.int .i64 job, .int .i64 epoch, .int .i64 step, .int .i64 frm, .int .i64 unt, .slice A ns.length c, .int .i64 cores])
  clear h
  go_enter Try.func17, Try.ntmps17
  go_wp2
  go_loopw [5] (fun i wr => ∃ k : Nat, k ≤ K.length ∧ i = .int .i64 k ∧ Hid (revokedB K job epoch = revokedB (K.drop k) job epoch) ∧ Fr (fun _ => False) (w.alloc (.cells #[.int .i64 job, .int .i64 epoch, .int .i64 step, .int .i64 frm, .int .i64 unt, .slice A ns.length c, .int .i64 cores] 31)) wr) (fun i _ => K.length - (intOf i).toNat)
  case atStart => exact ⟨0, Nat.zero_le _, rfl, rfl, Fr.refl _ _⟩
  case round =>
    obtain ⟨k, hk, rfl, hkp, hfr⟩ := hrel
    have h1 := HH.out.fr (((Fr.refl (fun _ => False) w).alloc _).then hfr) (fun _ h => h.elim)
    have hb := HB.out.fr hfr (fun h => h)
    have e1 := h1.blk.cell 2
    by_cases hlt : k < K.length
    · obtain ⟨g, cap, hlv, c1, c2⟩ := h1.elemK hlt
      subst hlv
      have HST := Lib.hid (fun hn => revokedB_step (job := job) (epoch := epoch) hlt hkp.out hn)
      have HHT := Lib.hid (fun hn => revokedB_hit (job := job) (epoch := epoch) hlt hkp.out hn)
      generalize K[k] = y at *
      obtain ⟨yj, ye⟩ := y
      simp only at c1 c2
      have l1 := Later.cell e1
      have l2 := Later.cell (hb.cell 0)
      have l3 := Later.cell (hb.cell 1)
      have l4 := Later.cell c1
      have l5 := Later.cell c2
      clear hb c1 c2
      by_cases hc : (yj == job) = true
      · by_cases hd : epoch ≤ ye
        · go_wp2_with fail
          refine wp_region_later wr (by kernel_rfl) (by kernel_rfl) (Fr.refl _ _) ?_
          repeat (go_big_quiet_step (fail))
          refine wpQuiet_nil ?_
          rintro _ ⟨d, rfl⟩
          go_wp2
          go_ret
          refine ⟨?_, (((Fr.refl _ w).alloc _).then hfr).then d.fr⟩
          rw [hres.out, HHT.out (by simp only [Bool.and_eq_true, decide_eq_true_eq]; exact ⟨hc, hd⟩)]
          rfl
        · go_wp2_with fail
          refine wp_region_later wr (by kernel_rfl) (by kernel_rfl) (Fr.refl _ _) ?_
          repeat (go_big_quiet_step (fail))
          refine wpQuiet_nil ?_
          rintro _ ⟨d, rfl⟩
          go_wp2
          go_roundw
          case rel => exact ⟨k + 1, by omega, by go_num, HST.out (by simp only [Bool.and_eq_false_iff, decide_eq_false_iff_not]; exact Or.inr (by omega)), hfr.then d.fr⟩
          case measure => simp [intOf]; omega
      · have hc : (yj == job) = false := by simpa using hc
        go_wp2_with fail
        refine wp_region_later wr (by kernel_rfl) (by kernel_rfl) (Fr.refl _ _) ?_
        repeat (go_big_quiet_step (fail))
        refine wpQuiet_nil ?_
        rintro _ ⟨d, rfl⟩
        go_wp2
        go_roundw
        case rel => exact ⟨k + 1, by omega, by go_num, HST.out (by simp only [Bool.and_eq_false_iff]; exact Or.inl hc), hfr.then d.fr⟩
        case measure => simp [intOf]; omega
    · obtain rfl : k = K.length := by omega
      obtain ⟨A', cap', rfl⟩ := h1.shapeK
      go_wp2
      go_ret
      refine ⟨?_, ((Fr.refl _ w).alloc _).then hfr⟩
      rw [hres.out, hkp.out, List.drop_length]
      rfl

set_option maxHeartbeats 400000 in
theorem used15_any (w : World) (base r : Nat) (most : Int) (L : List CredD) (K : List (Int × Int)) (lv bv : Value) (h : RefAt w base r most L K lv bv) (hL : L.length ≤ 1000) (x : CredD) (now : Int) :
    Calls Try.prog 15 #[.pointer (some ⟨r, 0, none⟩), x.val, .int .i64 now] w fun e w' => e = .returned (.bool (keptB L x now)) ∧ Fr (fun _ => False) w w' := by
  have hk := fun o => kept24_any (w.alloc o) base r most L K lv bv (h.fr ((Fr.refl (fun _ => False) w).alloc o) (fun _ h => h.elim)) hL x now _ rfl
  obtain ⟨job, epoch, step, frm, unt, A, c, ns, cores⟩ := x
  simp only [CredD.val] at *
  have HK := Lib.hid hk
  clear hk h
  go_enter Try.func15, Try.ntmps15
  go_wp2_with (go_at_call 24; refine (HK.out _).mono ?_; rintro e w2 ⟨rfl, hf2⟩)
  go_ret
  exact ⟨rfl, ((Fr.refl _ w).alloc _).then hf2⟩

set_option maxHeartbeats 400000 in
theorem new11_no (most : Int) (w : World) (h : most < 1 ∨ 64 < most) : Calls Try.prog 11 #[.int .i64 most] w fun e w' => e = .returned (.pointer none) ∧ w = w' := by
  rcases h with h | h
  · go_enter Try.func11, Try.ntmps11
    go_wp2
    go_ret
    exact ⟨rfl, rfl⟩
  · have h2 : ¬ most < 1 := by omega
    go_enter Try.func11, Try.ntmps11
    go_wp2
    go_ret
    exact ⟨rfl, rfl⟩

set_option maxHeartbeats 400000 in
theorem new11_yes (most : Int) (w : World) (base : Nat) (hb : base ≤ w.heap.size) (h1 : 1 ≤ most) (h2 : most ≤ 64) : Calls Try.prog 11 #[.int .i64 most] w fun e w' =>
    e = .returned (.pointer (some ⟨w.heap.size, 0, none⟩)) ∧ RefAt w' base w.heap.size most [] [] (.slice none 0 0) (.slice none 0 0) ∧ Fr (fun _ => False) w w' := by
  go_enter Try.func11, Try.ntmps11
  go_wp2
  go_ret
  refine ⟨rfl, ⟨?_, ?_, ?_, hb⟩, (Fr.refl _ w).alloc _⟩
  · exact Blk.new w 39 #[.int .i64 most, .slice none 0 0, .slice none 0 0]
  · exact World.ownsRow_nil _ _ _ _
  · exact World.ownsRow_nil _ _ _ _

end Go.Proofs.Ytclokfjcjpigpaa
