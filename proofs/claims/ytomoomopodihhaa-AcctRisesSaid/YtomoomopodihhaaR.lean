/-
  The reference's book: Job, All, Jobs.
-/
import Derived.Test.YtomoomopodihhaaS
namespace Go.Proofs.Ytomoomopodihhaa
open Go.RowKit Go.Maps Go.Sort Go.Shelf

def pairV (p : Int × Int) : List Value := [.int .i64 p.1, .int .i64 p.2]
def flatK (K : List (Int × Int)) : List Value := K.flatMap pairV

/-- The reference's book lies in block r. -/
structure RBook (w : World) (base r : Nat) (K : List (Int × Int)) (lv : Value) : Prop where
  blk : Blk w r 39 #[lv]
  row : w.ownsRow base 78 2 lv K.length (flatK K)
  hr : base ≤ r

section
variable {w w' : World} {base r : Nat} {K : List (Int × Int)} {lv : Value}
theorem RBook.fr {S : Nat → Prop} (h : RBook w base r K lv) (hf : Fr S w w') (hs : ∀ k, S k → k < base) : RBook w' base r K lv where
  blk := h.blk.fr hf (fun e => by have := hs _ e; have := h.hr; omega)
  row := ownsRow_fr h.row hf (fun k hk e => by have := hs _ e; have := (h.row.lt k hk).1; omega)
  hr := h.hr
theorem RBook.fr0 (h : RBook w base r K lv) (hf : Fr (fun _ => False) w w') : RBook w' base r K lv := h.fr hf (fun _ h => h.elim)
theorem RBook.shape (h : RBook w base r K lv) : ∃ A cap, lv = .slice A K.length cap := row_shape h.row
theorem RBook.elem (h : RBook w base r K lv) {k : Nat} (hk : k < K.length) :
    ∃ g cap, lv = .slice (some ⟨g, 0, none⟩) K.length cap ∧ w.cell? ⟨g, k * 2, none⟩ = some (.int .i64 (K[k]'hk).1) ∧ w.cell? ⟨g, k * 2 + 1, none⟩ = some (.int .i64 (K[k]'hk).2) := by
  obtain ⟨g, cap, hv, hc⟩ := row_elem pairV (fun _ => rfl) h.row hk
  exact ⟨g, cap, hv, hc 0 _ (by omega) rfl, hc 1 _ (by omega) rfl⟩
end

theorem findK_step {K : List (Int × Int)} {job : Int} {k : Nat} (hk : k < K.length) (h : findK K job = findK (K.drop k) job) (hn : ((K[k]'hk).1 == job) = false) : findK K job = findK (K.drop (k + 1)) job := by
  rw [h, List.drop_eq_getElem_cons hk]
  unfold findK
  rw [List.find?_cons, hn]
theorem findK_hit {K : List (Int × Int)} {job : Int} {k : Nat} (hk : k < K.length) (h : findK K job = findK (K.drop k) job) (hn : ((K[k]'hk).1 == job) = true) : findK K job = some (K[k]'hk).2 := by
  rw [h, List.drop_eq_getElem_cons hk]
  unfold findK
  rw [List.find?_cons, hn]
  rfl

set_option maxHeartbeats 1000000 in
theorem job26_any (w : World) (base r : Nat) (K : List (Int × Int)) (lv : Value) (h : RBook w base r K lv) (hK : K.length ≤ 1000) (job : Int) :
    Calls Try.prog 26 #[.pointer (some ⟨r, 0, none⟩), .int .i64 job] w fun e w' => e = .returned (.int .i64 ((findK K job).getD 0)) ∧ w = w' := by
  have c0 := h.blk.cell 0
  have HH := Lib.hid h
  obtain ⟨A, cap, rfl⟩ := h.shape
  clear h
  go_enter Try.func26, Try.ntmps26
  go_wp2
  go_loopw [5] (fun i wr => ∃ k : Nat, k ≤ K.length ∧ i = .int .i64 k ∧ Hid (findK K job = findK (K.drop k) job) ∧ w = wr) (fun i _ => K.length - (intOf i).toNat)
  case atStart => exact ⟨0, Nat.zero_le _, rfl, rfl, rfl⟩
  case round =>
    obtain ⟨k, hk, rfl, hkp, rfl⟩ := hrel
    by_cases hlt : k < K.length
    · obtain ⟨g, cp, hv, c1, c2⟩ := HH.out.elem hlt
      cases hv
      have HST := Lib.hid (fun hn => findK_step (job := job) hlt hkp.out hn)
      have HHT := Lib.hid (fun hn => findK_hit (job := job) hlt hkp.out hn)
      generalize K[k] = y at *
      obtain ⟨yj, ye⟩ := y
      simp only at c1 c2
      by_cases hc : (yj == job) = true
      · go_wp2
        go_ret
        rw [HHT.out hc]
        exact ⟨rfl, rfl⟩
      · have hc : (yj == job) = false := by simpa using hc
        go_wp2
        go_roundw
        case rel => exact ⟨k + 1, by omega, by go_num, HST.out hc, trivial⟩
        case measure => simp [intOf]; omega
    · obtain rfl : k = K.length := by omega
      go_wp2
      go_ret
      refine ⟨?_, rfl⟩
      rw [hkp.out, List.drop_length]
      rfl

theorem allS_take {K : List (Int × Int)} {k : Nat} (hk : k < K.length) : allS (K.take (k + 1)) = addS (allS (K.take k)) (K[k]'hk).2 := by
  rw [allS, List.take_succ_eq_append_getElem hk, List.foldl_append]
  rfl
theorem allS_wf (K : List (Int × Int)) : wf64 (allS K) ∧ 0 ≤ allS K := by
  rcases List.eq_nil_or_concat K with rfl | ⟨q, x, rfl⟩
  · simp [allS, wf64]
  · rw [List.concat_eq_append, allS, List.foldl_append]; exact addS_wf _ _

set_option maxHeartbeats 1000000 in
theorem all28_any (w : World) (base r : Nat) (K : List (Int × Int)) (lv : Value) (h : RBook w base r K lv) (hK : K.length ≤ 1000) (hw : ∀ p ∈ K, wf64 p.1 ∧ wf64 p.2) :
    Calls Try.prog 28 #[.pointer (some ⟨r, 0, none⟩)] w fun e w' => e = .returned (.int .i64 (allS K)) ∧ w = w' := by
  have c0 := h.blk.cell 0
  have HH := Lib.hid h
  have HW := Lib.hid hw
  obtain ⟨A, cap, rfl⟩ := h.shape
  clear h hw
  go_enter Try.func28, Try.ntmps28
  go_wp2
  go_loopw [3, 4] (fun s i wr => ∃ k : Nat, k ≤ K.length ∧ i = .int .i64 k ∧ s = .int .i64 (allS (K.take k)) ∧ w = wr) (fun _ i _ => K.length - (intOf i).toNat)
  case atStart => exact ⟨0, Nat.zero_le _, rfl, rfl, rfl⟩
  case round =>
    obtain ⟨k, hk, rfl, rfl, rfl⟩ := hrel
    by_cases hlt : k < K.length
    · obtain ⟨g, cp, hv, c1, c2⟩ := HH.out.elem hlt
      cases hv
      have h18 := fun W => add18_any (allS (K.take k)) (K[k]'hlt).2 (allS_wf _).1 (HW.out _ (List.getElem_mem hlt)).2 W
      rw [← allS_take hlt] at h18
      generalize K[k] = y at *
      obtain ⟨yj, ye⟩ := y
      simp only at c1 c2 h18
      generalize hs : allS (K.take k) = s at *
      have H18 := Lib.hid h18
      clear h18
      go_wp2_with (go_at_call 18; refine (H18.out _).mono ?_; rintro e w1 ⟨rfl, rfl⟩)
      go_roundw
      case rel => exact ⟨k + 1, by omega, by go_num, rfl, trivial⟩
      case measure => simp [intOf]; omega
    · obtain rfl : k = K.length := by omega
      rw [List.take_length]
      go_wp2
      go_ret
      exact ⟨rfl, rfl⟩

theorem info3 : (Try.prog.info? 3).map (fun i => (i.zero, i.size, i.bytes)) = some (some (.int .i64 0), 1, 8) := by kernel_rfl
theorem info78 : (Try.prog.info? 78).map (fun i => (i.zero, i.size, i.bytes)) = some (some (.agg #[.int .i64 0, .int .i64 0]), 2, 16) := by kernel_rfl

set_option maxHeartbeats 1000000 in
theorem jobs31_any (w : World) (base r : Nat) (K : List (Int × Int)) (lv : Value) (h : RBook w base r K lv) (hK : K.length ≤ 1000) :
    Calls Try.prog 31 #[.pointer (some ⟨r, 0, none⟩)] w fun e w' => ∃ v, e = .returned v ∧ IntsAt w' v (K.map (·.1)) ∧ Fr (fun _ => False) w w' := by
  obtain ⟨i0, hi, hz0, hz1, hz2⟩ := info_parts info3
  have HH := Lib.hid h
  obtain ⟨A, cap, rfl⟩ := h.shape
  clear h
  go_enter Try.func31, Try.ntmps31
  have c0 := HH.out.blk.cell 0
  go_wp2
  go_loopw [3, 4] (fun v i wr => ∃ k : Nat, k ≤ K.length ∧ i = .int .i64 k ∧ wr.ownsRow w.heap.size 3 1 v k (((K.map (·.1)).take k).map encZ) ∧ Fr (fun _ => False) w wr) (fun _ i _ => K.length - (intOf i).toNat)
  case atStart => exact ⟨0, Nat.zero_le _, rfl, World.ownsRow_nil _ _ _ _, Fr.refl _ _⟩
  case round =>
    obtain ⟨k, hk, rfl, hrow, hfr⟩ := hrel
    have hR := HH.out.fr0 hfr
    have e1 := hR.blk.cell 0
    by_cases hlt : k < K.length
    · obtain ⟨g, cp, hv, c1, c2⟩ := hR.elem hlt
      cases hv
      have hsz := hfr.size
      have s1 : k + 1 ≤ maxLen := by unfold maxLen; omega
      have s2 : (k + 1) * 8 ≤ 140737488355328 := by omega
      have s3 : ∀ o, w.heap.size ≤ (wr.alloc o).heap.size := fun o => by rw [World.size_alloc]; omega
      have hst : ((K.map (·.1)).take (k + 1)).map encZ = ((K.map (·.1)).take k).map encZ ++ [.int .i64 (K[k]'hlt).1] := by
        rw [List.take_succ_eq_append_getElem (by simpa using hlt), List.map_append]
        simp [encZ]
      have hkr := hrow.lt
      have HST := Lib.hid hst
      clear hst
      generalize K[k] = y at *
      obtain ⟨yj, ye⟩ := y
      simp only at c1 c2
      go_wp2_with (at_builtin; refine wpList_append_own _ rfl _ _ 45 rfl w.heap.size 3 i0 (.int .i64 0) 1 8 Try.underlying45 hi hz0 hz1 hz2 rfl (by decide) _ _ _ rfl (hrow.alloc _) ⟨wr.heap.size, 0, none⟩ 1 1 [.int .i64 yj] rfl rfl (news_one wr 3 [.int .i64 yj]) (by simp [Value.oneCell']) s1 s2 (s3 _) ?_; intro v' w1 hown1 hgrow1 hne1)
      go_roundw
      case rel => exact ⟨k + 1, by omega, by go_num, by rw [HST.out]; exact hown1, (hfr.alloc _).grown hgrow1 (fun q e => Or.inr (hkr q e).1)⟩
      case measure => simp [intOf]; omega
    · obtain rfl : k = K.length := by omega
      go_wp2
      go_ret
      refine ⟨_, rfl, ?_, hfr⟩
      have e2 : (K.map (·.1)).take K.length = K.map (·.1) := by rw [← List.length_map (f := fun p : Int × Int => p.1)]; exact List.take_length
      rw [e2] at hrow
      unfold IntsAt
      rw [List.length_map]
      exact ownsRow_base_a' hrow (Nat.zero_le _)

end Go.Proofs.Ytomoomopodihhaa
