/-
  The reference's cache: what each of its functions does, said of lists.
-/
import Derived.Test.YtclokfjcjpigpaaF
import Derived.Test.YtclokfjcjpigpaaLater
import Derived.Deep.LoopGhost
import Derived.Maps.AppendAt
namespace Go.Proofs.Ytclokfjcjpigpaa
open Go.RowKit Go.Maps

theorem flat_len {α : Type} (f : α → List Value) (n : Nat) (hf : ∀ a, (f a).length = n) (L : List α) : (L.flatMap f).length = L.length * n := by
  induction L with
  | nil => simp
  | cons a r ih => simp [List.flatMap_cons, hf, ih, Nat.add_mul]; omega

theorem flat_get {α : Type} (f : α → List Value) (n : Nat) (hf : ∀ a, (f a).length = n) : ∀ (L : List α) (i j : Nat) (hi : i < L.length), j < n → (L.flatMap f)[i * n + j]? = (f (L[i]'hi))[j]?
  | [], i, j, hi, _ => by simp at hi
  | a :: r, 0, j, hi, hj => by
    rw [List.flatMap_cons, Nat.zero_mul, Nat.zero_add, List.getElem?_append_left (by rw [hf]; exact hj)]
    rfl
  | a :: r, i + 1, j, hi, hj => by
    have hi' : i < r.length := by simpa using hi
    rw [List.flatMap_cons, List.getElem?_append_right (by rw [hf, Nat.add_mul]; omega), hf, show (i + 1) * n + j - n = i * n + j by rw [Nat.add_mul]; omega, flat_get f n hf r i j hi' hj]
    rfl

def alikeB (x y : CredD) : Bool := (x.job == y.job) && (x.epoch == y.epoch) && (x.step == y.step)

set_option maxHeartbeats 400000 in
theorem alike29_any (x y : CredD) (w : World) : Calls Try.prog 29 #[x.val, y.val] w fun e w' => e = .returned (.bool (alikeB x y)) ∧ Fr (fun _ => False) w w' := by
  obtain ⟨job, epoch, step, frm, unt, A, c, ns, cores⟩ := x
  obtain ⟨job', epoch', step', frm', unt', A', c', ns', cores'⟩ := y
  simp only [CredD.val]
  go_enter Try.func29, Try.ntmps29
  go_wp2
  all_goals go_ret
  all_goals exact ⟨by simp_all [alikeB], ((Fr.refl _ w).alloc _).alloc _⟩

/-- The reference's cache lies in block r: its lists' elements stand behind the addresses in order. -/
structure RefAt (w : World) (base r : Nat) (most : Int) (L : List CredD) (K : List (Int × Int)) (lv bv : Value) : Prop where
  blk : Blk w r 39 #[.int .i64 most, lv, bv]
  list : w.ownsRow base 31 7 lv L.length (L.flatMap fun x => x.cells.toList)
  back : w.ownsRow base 62 2 bv K.length (K.flatMap fun p => [.int .i64 p.1, .int .i64 p.2])
  hr : base ≤ r

theorem cells_len (x : CredD) : x.cells.toList.length = 7 := rfl

theorem ownsRow_fr {S : Nat → Prop} {w w' : World} {base : Nat} {e : TypeId} {size : Nat} {v : Value} {n : Nat} {xs : List Value} (h : w.ownsRow base e size v n xs) (hf : Fr S w w') (hs : ∀ k, v.ownBlock = some k → ¬ S k) : w'.ownsRow base e size v n xs := by
  obtain ⟨h1, h2⟩ := h
  refine ⟨h1, ?_⟩
  rcases h2 with h2 | ⟨g, cap, cur, rfl, hg, hb, h3⟩
  · exact Or.inl h2
  · exact Or.inr ⟨g, cap, cur, rfl, hg, hf.heap hb (hs g rfl), h3⟩

theorem ownsRow_block {w : World} {base : Nat} {e : TypeId} {size : Nat} {v : Value} {n : Nat} {xs : List Value} (h : w.ownsRow base e size v n xs) {k : Nat} (hk : v.ownBlock = some k) : ∃ cur, w.heap[k]? = some (.cells cur e (0, 0)) := by
  obtain ⟨h1, h2⟩ := h
  rcases h2 with ⟨rfl, _⟩ | ⟨g, cap, cur, rfl, hg, hb, h3⟩
  · cases hk
  · cases hk
    exact ⟨cur, hb⟩

theorem RefAt.fr {S : Nat → Prop} {w w' : World} {base r : Nat} {most : Int} {L : List CredD} {K : List (Int × Int)} {lv bv : Value} (h : RefAt w base r most L K lv bv) (hf : Fr S w w') (hs : ∀ k, S k → ∀ cs t f, w.heap[k]? ≠ some (.cells cs t f)) : RefAt w' base r most L K lv bv where
  blk := h.blk.fr hf (fun e => hs _ e _ _ _ h.blk)
  list := ownsRow_fr h.list hf (fun k hk e => by obtain ⟨cur, hc⟩ := ownsRow_block h.list hk; exact hs _ e _ _ _ hc)
  back := ownsRow_fr h.back hf (fun k hk e => by obtain ⟨cur, hc⟩ := ownsRow_block h.back hk; exact hs _ e _ _ _ hc)
  hr := h.hr

theorem RefAt.elem {w : World} {base r : Nat} {most : Int} {L : List CredD} {K : List (Int × Int)} {lv bv : Value} (h : RefAt w base r most L K lv bv) {k : Nat} (hk : k < L.length) :
    ∃ g cap, lv = .slice (some ⟨g, 0, none⟩) L.length cap ∧ ∀ j u, (L[k]'hk).cells[j]? = some u → w.cell? ⟨g, k * 7 + j, none⟩ = some u := by
  obtain ⟨h1, h2⟩ := h.list
  rcases h2 with ⟨rfl, h3⟩ | ⟨g, cap, cur, rfl, hg, hb, h3⟩
  · omega
  · refine ⟨g, cap, rfl, fun j u hu => ?_⟩
    have hj : j < 7 := by
      rcases Nat.lt_or_ge j 7 with h | h
      · exact h
      · rw [Array.getElem?_eq_none (by exact h)] at hu; cases hu
    have hget := flat_get (fun x : CredD => x.cells.toList) 7 (fun _ => rfl) L k j hk hj
    have hlt : k * 7 + j < L.length * 7 := by omega
    rw [cell_of_row w g (k * 7 + j) cur 31 (0, 0) hb]
    have e1 : cur.toList[k * 7 + j]? = (cur.toList.take (L.length * 7))[k * 7 + j]? := by rw [List.getElem?_take, if_pos hlt]
    rw [← Array.getElem?_toList, e1, h3.2.2.2, hget]
    simpa using hu

theorem RefAt.shape {w : World} {base r : Nat} {most : Int} {L : List CredD} {K : List (Int × Int)} {lv bv : Value} (h : RefAt w base r most L K lv bv) : ∃ A cap, lv = .slice A L.length cap := by
  obtain ⟨_, h2⟩ := h.list
  rcases h2 with ⟨rfl, h3⟩ | ⟨g, cap, cur, rfl, _⟩
  · exact ⟨none, 0, by rw [h3]⟩
  · exact ⟨_, cap, rfl⟩
theorem RefAt.shapeK {w : World} {base r : Nat} {most : Int} {L : List CredD} {K : List (Int × Int)} {lv bv : Value} (h : RefAt w base r most L K lv bv) : ∃ A cap, bv = .slice A K.length cap := by
  obtain ⟨_, h2⟩ := h.back
  rcases h2 with ⟨rfl, h3⟩ | ⟨g, cap, cur, rfl, _⟩
  · exact ⟨none, 0, by rw [h3]⟩
  · exact ⟨_, cap, rfl⟩

def keptB (L : List CredD) (x : CredD) (above : Int) : Bool := L.any fun c => alikeB c x && decide (above < c.until_)


theorem keptB_step {L : List CredD} {x : CredD} {above : Int} {k : Nat} (hk : k < L.length) (h : keptB L x above = keptB (L.drop k) x above) (hn : (alikeB (L[k]'hk) x && decide (above < (L[k]'hk).until_)) = false) : keptB L x above = keptB (L.drop (k + 1)) x above := by
  rw [h, List.drop_eq_getElem_cons hk]
  unfold keptB
  rw [List.any_cons, hn, Bool.false_or]
theorem keptB_hit {L : List CredD} {x : CredD} {above : Int} {k : Nat} (hk : k < L.length) (h : keptB L x above = keptB (L.drop k) x above) (hn : (alikeB (L[k]'hk) x && decide (above < (L[k]'hk).until_)) = true) : keptB L x above = true := by
  rw [h, List.drop_eq_getElem_cons hk]
  unfold keptB
  rw [List.any_cons, hn, Bool.true_or]

/-- The cells that a round reads. -/
def RCells (W : World) (r g bx o : Nat) (lv : Value) (x y : CredD) : Prop :=
  W.cell? ⟨r, 1, none⟩ = some lv ∧
  W.cell? ⟨bx, 0, none⟩ = some (.int .i64 x.job) ∧ W.cell? ⟨bx, 1, none⟩ = some (.int .i64 x.epoch) ∧ W.cell? ⟨bx, 2, none⟩ = some (.int .i64 x.step) ∧ W.cell? ⟨bx, 3, none⟩ = some (.int .i64 x.frm) ∧ W.cell? ⟨bx, 4, none⟩ = some (.int .i64 x.until_) ∧ W.cell? ⟨bx, 5, none⟩ = some (.slice x.A x.ns.length x.c) ∧ W.cell? ⟨bx, 6, none⟩ = some (.int .i64 x.cores) ∧
  W.cell? ⟨g, o, none⟩ = some (.int .i64 y.job) ∧ W.cell? ⟨g, o + 1, none⟩ = some (.int .i64 y.epoch) ∧ W.cell? ⟨g, o + 2, none⟩ = some (.int .i64 y.step) ∧ W.cell? ⟨g, o + 3, none⟩ = some (.int .i64 y.frm) ∧ W.cell? ⟨g, o + 4, none⟩ = some (.int .i64 y.until_) ∧ W.cell? ⟨g, o + 5, none⟩ = some (.slice y.A y.ns.length y.c) ∧ W.cell? ⟨g, o + 6, none⟩ = some (.int .i64 y.cores)

theorem cell_fr {S : Nat → Prop} {w w' : World} (hf : Fr S w w') {a : Addr} {v : Value} (h : w.cell? a = some v) (hn : ¬ S a.block) : w'.cell? a = some v := by
  rw [World.cell?_of_block (hf.block a.block (World.block_lt_of_cell? w _ h) hn)]
  exact h

theorem RCells.fr {W W' : World} {r g bx o : Nat} {lv : Value} {x y : CredD} (h : RCells W r g bx o lv x y) (hf : Fr (fun _ => False) W W') : RCells W' r g bx o lv x y := by
  obtain ⟨h1, h2, h3, h4, h5, h6, h7, h8, h9, h10, h11, h12, h13, h14, h15⟩ := h
  exact ⟨cell_fr hf h1 id, cell_fr hf h2 id, cell_fr hf h3 id, cell_fr hf h4 id, cell_fr hf h5 id, cell_fr hf h6 id, cell_fr hf h7 id, cell_fr hf h8 id, cell_fr hf h9 id, cell_fr hf h10 id, cell_fr hf h11 id, cell_fr hf h12 id, cell_fr hf h13 id, cell_fr hf h14 id, cell_fr hf h15 id⟩

set_option maxHeartbeats 1000000 in
theorem kept24_any (w : World) (base r : Nat) (most : Int) (L : List CredD) (K : List (Int × Int)) (lv bv : Value) (h : RefAt w base r most L K lv bv) (hL : L.length ≤ 1000) (x : CredD) (above : Int) (res : Bool) (hres : Hid (res = keptB L x above)) :
    Calls Try.prog 24 #[.pointer (some ⟨r, 0, none⟩), x.val, .int .i64 above] w fun e w' => e = .returned (.bool res) ∧ Fr (fun _ => False) w w' := by
  have HH := Lib.hid h
  have hr := h.blk.lt
  have H29 := Lib.hid (fun y W => alike29_any y x W)
  obtain ⟨job, epoch, step, frm, unt, A, c, ns, cores⟩ := x
  simp only [CredD.val] at *
  have HB := Lib.hid (Blk.new w 31 #[.int .i64 job, .int .i64 epoch, .int .i64 step, .int .i64 frm, .int .i64 unt, .slice A ns.length c, .int .i64 cores])
  clear h
  go_enter Try.func24, Try.ntmps24
  go_wp2
  go_loopw [7] (fun i wr => ∃ k : Nat, k ≤ L.length ∧ i = .int .i64 k ∧ Hid (keptB L ⟨job, epoch, step, frm, unt, A, c, ns, cores⟩ above = keptB (L.drop k) ⟨job, epoch, step, frm, unt, A, c, ns, cores⟩ above) ∧ Fr (fun _ => False) (w.alloc (.cells #[.int .i64 job, .int .i64 epoch, .int .i64 step, .int .i64 frm, .int .i64 unt, .slice A ns.length c, .int .i64 cores] 31)) wr) (fun i _ => L.length - (intOf i).toNat)
  case atStart => exact ⟨0, Nat.zero_le _, rfl, rfl, Fr.refl _ _⟩
  case round =>
    obtain ⟨k, hk, rfl, hkp, hfr⟩ := hrel
    have h1 := HH.out.fr (((Fr.refl (fun _ => False) w).alloc _).then hfr) (fun _ h => h.elim)
    have hb := HB.out.fr hfr (fun h => h)
    have e1 := h1.blk.cell 1
    by_cases hlt : k < L.length
    · obtain ⟨g, cap, hlv, hcell⟩ := h1.elem hlt
      subst hlv
      have HST := Lib.hid (fun hn => keptB_step (x := ⟨job, epoch, step, frm, unt, A, c, ns, cores⟩) (above := above) hlt hkp.out hn)
      have HHT := Lib.hid (fun hn => keptB_hit (x := ⟨job, epoch, step, frm, unt, A, c, ns, cores⟩) (above := above) hlt hkp.out hn)
      generalize L[k] = y at *
      have R := show RCells wr r g w.heap.size (k * 7) (.slice (some ⟨g, 0, none⟩) L.length cap) ⟨job, epoch, step, frm, unt, A, c, ns, cores⟩ y from
        ⟨e1, hb.cell 0, hb.cell 1, hb.cell 2, hb.cell 3, hb.cell 4, hb.cell 5, hb.cell 6, hcell 0 _ rfl, hcell 1 _ rfl, hcell 2 _ rfl, hcell 3 _ rfl, hcell 4 _ rfl, hcell 5 _ rfl, hcell 6 _ rfl⟩
      have H29' := Lib.hid (H29.out y)
      clear hcell hb H29
      generalize hal : alikeB y ⟨job, epoch, step, frm, unt, A, c, ns, cores⟩ = al at *
      clear hal
      obtain ⟨job', epoch', step', frm', unt', A', c', ns', cores'⟩ := y
      obtain ⟨q1, q2, q3, q4, q5, q6, q7, q8, q9, q10, q11, q12, q13, q14, q15⟩ := R
      have l1 := Later.cell q1
      have l2 := Later.cell q2
      have l3 := Later.cell q3
      have l4 := Later.cell q4
      have l5 := Later.cell q5
      have l6 := Later.cell q6
      have l7 := Later.cell q7
      have l8 := Later.cell q8
      have l9 := Later.cell q9
      have l10 := Later.cell q10
      have l11 := Later.cell q11
      have l12 := Later.cell q12
      have l13 := Later.cell q13
      have l14 := Later.cell q14
      have l15 := Later.cell q15
      clear q1 q2 q3 q4 q5 q6 q7 q8 q9 q10 q11 q12 q13 q14 q15
      cases al
      · go_wp2_with fail
        refine wp_region_later wr (by kernel_rfl) (by kernel_rfl) (Fr.refl _ _) ?_
        repeat (go_big_quiet_step ((go_at_call 29; exact later_call (H29'.out _))))
        refine wpQuiet_nil ?_
        rintro _ ⟨d, rfl⟩
        go_wp2
        go_roundw
        case rel => exact ⟨k + 1, by omega, by go_num, HST.out (by simp), hfr.then d.fr⟩
        case measure => simp [intOf]; omega
      · by_cases hc : above < unt'
        · go_wp2_with fail
          refine wp_region_later wr (by kernel_rfl) (by kernel_rfl) (Fr.refl _ _) ?_
          repeat (go_big_quiet_step ((go_at_call 29; exact later_call (H29'.out _))))
          refine wpQuiet_nil ?_
          rintro _ ⟨d, rfl⟩
          go_wp2
          go_ret
          refine ⟨?_, (((Fr.refl _ w).alloc _).then hfr).then d.fr⟩
          rw [hres.out, HHT.out (by simpa using hc)]
          rfl
        · go_wp2_with fail
          refine wp_region_later wr (by kernel_rfl) (by kernel_rfl) (Fr.refl _ _) ?_
          repeat (go_big_quiet_step ((go_at_call 29; exact later_call (H29'.out _))))
          refine wpQuiet_nil ?_
          rintro _ ⟨d, rfl⟩
          go_wp2
          go_roundw
          case rel => exact ⟨k + 1, by omega, by go_num, HST.out (by simpa using hc), hfr.then d.fr⟩
          case measure => simp [intOf]; omega
    · obtain rfl : k = L.length := by omega
      obtain ⟨A', cap', rfl⟩ := h1.shape
      go_wp2
      go_ret
      refine ⟨?_, ((Fr.refl _ w).alloc _).then hfr⟩
      rw [hres.out, hkp.out, List.drop_length]
      rfl

end Go.Proofs.Ytclokfjcjpigpaa
