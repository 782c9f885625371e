/-
  CoresMore, walked (made by gen_more.py).
-/
import Derived.Test.YtcefadbnmpjeiaaMp
import Derived.Test.YtcefadbnmpjeiaaSm
import Derived.Test.YtcefadbnmpjeiaaWi
import Derived.Test.YtcefadbnmpjeiaaArgW
import Derived.Test.YtcefadbnmpjeiaaN
namespace Go.Proofs.Ytcefadbnmpjeiaa
open Go.RowKit Go.Maps Go.Shelf

section
variable {W w : World} {g b : Nat} {t t' : TypeId} {S : Nat → Prop}
theorem Blk.set4 {z0 z1 z2 z3 z4 z5 z6 : Value} (h : Blk W g t #[z0, z1, z2, z3, z4, z5, z6]) (v0 v1 v2 v3 : Value) : Blk ((((W.setCell ⟨g, 0, none⟩ v0).setCell ⟨g, 1, none⟩ v1).setCell ⟨g, 2, none⟩ v2).setCell ⟨g, 3, none⟩ v3) g t #[v0, v1, v2, v3, z4, z5, z6] := by
  have := (((h.set_ 0 v0).set_ 1 v1).set_ 2 v2).set_ 3 v3
  have e : (((#[z0, z1, z2, z3, z4, z5, z6].setIfInBounds 0 v0).setIfInBounds 1 v1).setIfInBounds 2 v2).setIfInBounds 3 v3 = #[v0, v1, v2, v3, z4, z5, z6] := rfl
  rw [e] at this
  exact this
theorem Fr.set4 (h : Fr S w W) (hg : S g ∨ w.heap.size ≤ g) (v0 v1 v2 v3 : Value) : Fr S w ((((W.setCell ⟨g, 0, none⟩ v0).setCell ⟨g, 1, none⟩ v1).setCell ⟨g, 2, none⟩ v2).setCell ⟨g, 3, none⟩ v3) :=
  (((h.setCell hg _).setCell hg _).setCell hg _).setCell hg _
end


set_option maxRecDepth 40000 in
set_option maxHeartbeats 4000000 in
theorem more6_no (s p : Int) (F N : Nat) (r q d : Int) (ee : Int) (hee : ee ≠ 0) (Ms : List Nat)
    (H24 : Hid (∀ W, Calls Try.prog 24 #[.agg #[.int .i64 s, .int .i64 p], .agg #[.int .u64 (wordM F 0 : Nat), .int .u64 (wordM F 1 : Nat), .int .u64 (wordM F 2 : Nat), .int .u64 (wordM F 3 : Nat), .int .i64 r, .int .i64 q, .int .i64 d]] W fun e w' => ∃ v, e = .returned (.tuple #[v, .int .i64 ee]) ∧ w'.ownsRow W.heap.size 33 4 v Ms.length (flatM Ms) ∧ Fr (fun _ => False) W w'))
    (H14 : Hid (∀ W, Calls Try.prog 14 #[.agg #[.int .i64 s, .int .i64 p]] W fun e w' => e = .returned (.agg #[.int .i64 s, .int .i64 p]) ∧ Fr (fun _ => False) W w'))
    (H25 : Hid (∀ W, Calls Try.prog 25 #[.agg #[.int .u64 (wordM F 0 : Nat), .int .u64 (wordM F 1 : Nat), .int .u64 (wordM F 2 : Nat), .int .u64 (wordM F 3 : Nat), .int .i64 r, .int .i64 q, .int .i64 d]] W fun e w' => e = .returned (.agg #[.int .u64 (wordM F 0 : Nat), .int .u64 (wordM F 1 : Nat), .int .u64 (wordM F 2 : Nat), .int .u64 (wordM F 3 : Nat), .int .i64 r, .int .i64 q, .int .i64 d]) ∧ Fr (fun _ => False) W w'))
    (w : World) : Calls Try.prog 6 #[.agg #[.int .i64 s, .int .i64 p], .agg #[.int .u64 (wordM F 0 : Nat), .int .u64 (wordM F 1 : Nat), .int .u64 (wordM F 2 : Nat), .int .u64 (wordM F 3 : Nat), .int .i64 r, .int .i64 q, .int .i64 d], .agg #[.int .u64 (wordM N 0 : Nat), .int .u64 (wordM N 1 : Nat), .int .u64 (wordM N 2 : Nat), .int .u64 (wordM N 3 : Nat)]] w fun e w' => e = .returned (.bool true) ∧ Fr (fun _ => False) w w' := by
  have hL := ((Blk.new w 23 #[.int .i64 s, .int .i64 p]).alloc (.cells #[.int .u64 (wordM F 0 : Nat), .int .u64 (wordM F 1 : Nat), .int .u64 (wordM F 2 : Nat), .int .u64 (wordM F 3 : Nat), .int .i64 r, .int .i64 q, .int .i64 d] 45)).alloc (.cells #[.int .u64 (wordM N 0 : Nat), .int .u64 (wordM N 1 : Nat), .int .u64 (wordM N 2 : Nat), .int .u64 (wordM N 3 : Nat)] 40)
  have hW := (Blk.new (w.alloc (.cells #[.int .i64 s, .int .i64 p] 23)) 45 #[.int .u64 (wordM F 0 : Nat), .int .u64 (wordM F 1 : Nat), .int .u64 (wordM F 2 : Nat), .int .u64 (wordM F 3 : Nat), .int .i64 r, .int .i64 q, .int .i64 d]).alloc (.cells #[.int .u64 (wordM N 0 : Nat), .int .u64 (wordM N 1 : Nat), .int .u64 (wordM N 2 : Nat), .int .u64 (wordM N 3 : Nat)] 40)
  have hM := Blk.new ((w.alloc (.cells #[.int .i64 s, .int .i64 p] 23)).alloc (.cells #[.int .u64 (wordM F 0 : Nat), .int .u64 (wordM F 1 : Nat), .int .u64 (wordM F 2 : Nat), .int .u64 (wordM F 3 : Nat), .int .i64 r, .int .i64 q, .int .i64 d] 45)) 40 #[.int .u64 (wordM N 0 : Nat), .int .u64 (wordM N 1 : Nat), .int .u64 (wordM N 2 : Nat), .int .u64 (wordM N 3 : Nat)]
  simp only [World.size_alloc] at hW hM
  have hF := ((((Fr.refl (fun _ => False) w).alloc (.cells #[.int .i64 s, .int .i64 p] 23)).alloc (.cells #[.int .u64 (wordM F 0 : Nat), .int .u64 (wordM F 1 : Nat), .int .u64 (wordM F 2 : Nat), .int .u64 (wordM F 3 : Nat), .int .i64 r, .int .i64 q, .int .i64 d] 45)).alloc (.cells #[.int .u64 (wordM N 0 : Nat), .int .u64 (wordM N 1 : Nat), .int .u64 (wordM N 2 : Nat), .int .u64 (wordM N 3 : Nat)] 40))
  have hlt := hM.lt
  have HL := Lib.hid hL
  have HM := Lib.hid hM
  have HF := Lib.hid hF
  have e1 := fun i => hW.cell i
  clear hL hM hF hW
  go_enter Try.func6, Try.ntmps6
  go_wp2_with fail
  refine (H25.out _).mono ?_
  rintro e w1 ⟨rfl, hf1⟩
  clear e1
  have hz1 := hf1.size
  have HL1 := Lib.hid ((HL.out.fr hf1 (fun h => h)).alloc (.cells #[.int .u64 (wordM F 0 : Nat), .int .u64 (wordM F 1 : Nat), .int .u64 (wordM F 2 : Nat), .int .u64 (wordM F 3 : Nat), .int .i64 r, .int .i64 q, .int .i64 d] 50))
  have HM1 := Lib.hid ((HM.out.fr hf1 (fun h => h)).alloc (.cells #[.int .u64 (wordM F 0 : Nat), .int .u64 (wordM F 1 : Nat), .int .u64 (wordM F 2 : Nat), .int .u64 (wordM F 3 : Nat), .int .i64 r, .int .i64 q, .int .i64 d] 50))
  have HX1 := Lib.hid (Blk.new w1 50 #[.int .u64 (wordM F 0 : Nat), .int .u64 (wordM F 1 : Nat), .int .u64 (wordM F 2 : Nat), .int .u64 (wordM F 3 : Nat), .int .i64 r, .int .i64 q, .int .i64 d])
  have HF1 := Lib.hid ((HF.out.then hf1).alloc (.cells #[.int .u64 (wordM F 0 : Nat), .int .u64 (wordM F 1 : Nat), .int .u64 (wordM F 2 : Nat), .int .u64 (wordM F 3 : Nat), .int .i64 r, .int .i64 q, .int .i64 d] 50))
  clear hf1 HL HM HF
  go_wp2_with fail
  have l0 := Later.cell (HL1.out.cell 0)
  have l1 := Later.cell (HL1.out.cell 1)
  have l2 := Later.cell (HX1.out.cell 0)
  have l3 := Later.cell (HX1.out.cell 1)
  have l4 := Later.cell (HX1.out.cell 2)
  have l5 := Later.cell (HX1.out.cell 3)
  have l6 := Later.cell (HX1.out.cell 4)
  have l7 := Later.cell (HX1.out.cell 5)
  have l8 := Later.cell (HX1.out.cell 6)
  refine wp_region_mid (w1.alloc (.cells #[.int .u64 (wordM F 0 : Nat), .int .u64 (wordM F 1 : Nat), .int .u64 (wordM F 2 : Nat), .int .u64 (wordM F 3 : Nat), .int .i64 r, .int .i64 q, .int .i64 d] 50)) 3 0 (by kernel_rfl) (by kernel_rfl) (Fr.refl _ _) ?_
  simp only [List.take_succ_cons, List.take_zero, List.drop_succ_cons, List.drop_zero, Nat.reduceAdd]
  repeat (go_big_quiet_step (first | (go_at_call 14; exact later_call (H14.out _))))
  refine wpQuiet_nil ?_
  rintro _ ⟨ddx, rfl⟩
  clear l0 l1 l2 l3 l4 l5 l6 l7 l8
  go_wp2_with (go_at_call 24; refine (H24.out _).mono ?_; rintro e wx2 ⟨vx, rfl, hrx, hfx2⟩)
  have hix := MsV.of_row hrx
  have HLTx := Lib.hid (fun g hg => (hrx.lt g hg).2)
  obtain ⟨Ax, cx, rfl⟩ := row_shape hrx
  simp only [Mid]
  have HIx := Lib.hid hix
  have HFMx := Lib.hid (ddx.fr.then hfx2)
  clear hix hrx hfx2
  repeat (go_big_quiet_step (fail))
  refine wpQuiet_nil ?_
  rintro _ ⟨eex, rfl⟩
  have HFRx := Lib.hid (HFMx.out.then eex.fr)
  have HFX := Lib.hid (HF1.out.then HFRx.out)
  have b1 : (ee == 0) = false := by simpa using hee
  go_wp2_with fail
  refine (live_any _).mono ?_
  rintro e w7 ⟨rfl, hf7⟩
  go_wp2_with fail
  go_ret
  exact ⟨rfl, HFX.out.then hf7⟩


set_option maxRecDepth 40000 in
set_option maxHeartbeats 4000000 in
theorem more6_one (s p : Int) (F N : Nat) (r q d : Int) (hr1 : r ≤ 1) (G : Nat) (hr : 1 ≤ r ∧ r ≤ 32) (Mx My Mz : List Nat)
    (H30 : Hid (∀ W, Calls Try.prog 30 #[.agg #[.int .u64 (wordM F 0 : Nat), .int .u64 (wordM F 1 : Nat), .int .u64 (wordM F 2 : Nat), .int .u64 (wordM F 3 : Nat)], .agg #[.int .u64 (wordM N 0 : Nat), .int .u64 (wordM N 1 : Nat), .int .u64 (wordM N 2 : Nat), .int .u64 (wordM N 3 : Nat)]] W fun e w' => e = .returned (.agg #[.int .u64 (wordM G 0 : Nat), .int .u64 (wordM G 1 : Nat), .int .u64 (wordM G 2 : Nat), .int .u64 (wordM G 3 : Nat)]) ∧ Fr (fun _ => False) W w'))
    (H24 : Hid (∀ W, Calls Try.prog 24 #[.agg #[.int .i64 s, .int .i64 p], .agg #[.int .u64 (wordM F 0 : Nat), .int .u64 (wordM F 1 : Nat), .int .u64 (wordM F 2 : Nat), .int .u64 (wordM F 3 : Nat), .int .i64 r, .int .i64 q, .int .i64 d]] W fun e w' => ∃ v, e = .returned (.tuple #[v, .int .i64 0]) ∧ w'.ownsRow W.heap.size 33 4 v Mx.length (flatM Mx) ∧ Fr (fun _ => False) W w'))
    (H24y : Hid (∀ W, Calls Try.prog 24 #[.agg #[.int .i64 s, .int .i64 p], .agg #[.int .u64 (wordM G 0 : Nat), .int .u64 (wordM G 1 : Nat), .int .u64 (wordM G 2 : Nat), .int .u64 (wordM G 3 : Nat), .int .i64 r, .int .i64 q, .int .i64 d]] W fun e w' => ∃ v, e = .returned (.tuple #[v, .int .i64 0]) ∧ w'.ownsRow W.heap.size 33 4 v My.length (flatM My) ∧ Fr (fun _ => False) W w'))
    (H24z : Hid (∀ W, Calls Try.prog 24 #[.agg #[.int .i64 s, .int .i64 p], .agg #[.int .u64 (wordM F 0 : Nat), .int .u64 (wordM F 1 : Nat), .int .u64 (wordM F 2 : Nat), .int .u64 (wordM F 3 : Nat), .int .i64 (r - 1), .int .i64 q, .int .i64 d]] W fun e w' => ∃ v, e = .returned (.tuple #[v, .int .i64 1]) ∧ w'.ownsRow W.heap.size 33 4 v Mz.length (flatM Mz) ∧ Fr (fun _ => False) W w'))
    (H14 : Hid (∀ W, Calls Try.prog 14 #[.agg #[.int .i64 s, .int .i64 p]] W fun e w' => e = .returned (.agg #[.int .i64 s, .int .i64 p]) ∧ Fr (fun _ => False) W w'))
    (H25 : Hid (∀ W, Calls Try.prog 25 #[.agg #[.int .u64 (wordM F 0 : Nat), .int .u64 (wordM F 1 : Nat), .int .u64 (wordM F 2 : Nat), .int .u64 (wordM F 3 : Nat), .int .i64 r, .int .i64 q, .int .i64 d]] W fun e w' => e = .returned (.agg #[.int .u64 (wordM F 0 : Nat), .int .u64 (wordM F 1 : Nat), .int .u64 (wordM F 2 : Nat), .int .u64 (wordM F 3 : Nat), .int .i64 r, .int .i64 q, .int .i64 d]) ∧ Fr (fun _ => False) W w'))
    (w : World) : Calls Try.prog 6 #[.agg #[.int .i64 s, .int .i64 p], .agg #[.int .u64 (wordM F 0 : Nat), .int .u64 (wordM F 1 : Nat), .int .u64 (wordM F 2 : Nat), .int .u64 (wordM F 3 : Nat), .int .i64 r, .int .i64 q, .int .i64 d], .agg #[.int .u64 (wordM N 0 : Nat), .int .u64 (wordM N 1 : Nat), .int .u64 (wordM N 2 : Nat), .int .u64 (wordM N 3 : Nat)]] w fun e w' => e = .returned (.bool true) ∧ Fr (fun _ => False) w w' := by
  have hL := ((Blk.new w 23 #[.int .i64 s, .int .i64 p]).alloc (.cells #[.int .u64 (wordM F 0 : Nat), .int .u64 (wordM F 1 : Nat), .int .u64 (wordM F 2 : Nat), .int .u64 (wordM F 3 : Nat), .int .i64 r, .int .i64 q, .int .i64 d] 45)).alloc (.cells #[.int .u64 (wordM N 0 : Nat), .int .u64 (wordM N 1 : Nat), .int .u64 (wordM N 2 : Nat), .int .u64 (wordM N 3 : Nat)] 40)
  have hW := (Blk.new (w.alloc (.cells #[.int .i64 s, .int .i64 p] 23)) 45 #[.int .u64 (wordM F 0 : Nat), .int .u64 (wordM F 1 : Nat), .int .u64 (wordM F 2 : Nat), .int .u64 (wordM F 3 : Nat), .int .i64 r, .int .i64 q, .int .i64 d]).alloc (.cells #[.int .u64 (wordM N 0 : Nat), .int .u64 (wordM N 1 : Nat), .int .u64 (wordM N 2 : Nat), .int .u64 (wordM N 3 : Nat)] 40)
  have hM := Blk.new ((w.alloc (.cells #[.int .i64 s, .int .i64 p] 23)).alloc (.cells #[.int .u64 (wordM F 0 : Nat), .int .u64 (wordM F 1 : Nat), .int .u64 (wordM F 2 : Nat), .int .u64 (wordM F 3 : Nat), .int .i64 r, .int .i64 q, .int .i64 d] 45)) 40 #[.int .u64 (wordM N 0 : Nat), .int .u64 (wordM N 1 : Nat), .int .u64 (wordM N 2 : Nat), .int .u64 (wordM N 3 : Nat)]
  simp only [World.size_alloc] at hW hM
  have hF := ((((Fr.refl (fun _ => False) w).alloc (.cells #[.int .i64 s, .int .i64 p] 23)).alloc (.cells #[.int .u64 (wordM F 0 : Nat), .int .u64 (wordM F 1 : Nat), .int .u64 (wordM F 2 : Nat), .int .u64 (wordM F 3 : Nat), .int .i64 r, .int .i64 q, .int .i64 d] 45)).alloc (.cells #[.int .u64 (wordM N 0 : Nat), .int .u64 (wordM N 1 : Nat), .int .u64 (wordM N 2 : Nat), .int .u64 (wordM N 3 : Nat)] 40))
  have hlt := hM.lt
  have HL := Lib.hid hL
  have HM := Lib.hid hM
  have HF := Lib.hid hF
  have e1 := fun i => hW.cell i
  clear hL hM hF hW
  go_enter Try.func6, Try.ntmps6
  go_wp2_with fail
  refine (H25.out _).mono ?_
  rintro e w1 ⟨rfl, hf1⟩
  clear e1
  have hz1 := hf1.size
  have HL1 := Lib.hid ((HL.out.fr hf1 (fun h => h)).alloc (.cells #[.int .u64 (wordM F 0 : Nat), .int .u64 (wordM F 1 : Nat), .int .u64 (wordM F 2 : Nat), .int .u64 (wordM F 3 : Nat), .int .i64 r, .int .i64 q, .int .i64 d] 50))
  have HM1 := Lib.hid ((HM.out.fr hf1 (fun h => h)).alloc (.cells #[.int .u64 (wordM F 0 : Nat), .int .u64 (wordM F 1 : Nat), .int .u64 (wordM F 2 : Nat), .int .u64 (wordM F 3 : Nat), .int .i64 r, .int .i64 q, .int .i64 d] 50))
  have HX1 := Lib.hid (Blk.new w1 50 #[.int .u64 (wordM F 0 : Nat), .int .u64 (wordM F 1 : Nat), .int .u64 (wordM F 2 : Nat), .int .u64 (wordM F 3 : Nat), .int .i64 r, .int .i64 q, .int .i64 d])
  have HF1 := Lib.hid ((HF.out.then hf1).alloc (.cells #[.int .u64 (wordM F 0 : Nat), .int .u64 (wordM F 1 : Nat), .int .u64 (wordM F 2 : Nat), .int .u64 (wordM F 3 : Nat), .int .i64 r, .int .i64 q, .int .i64 d] 50))
  clear hf1 HL HM HF
  go_wp2_with fail
  have l0 := Later.cell (HL1.out.cell 0)
  have l1 := Later.cell (HL1.out.cell 1)
  have l2 := Later.cell (HX1.out.cell 0)
  have l3 := Later.cell (HX1.out.cell 1)
  have l4 := Later.cell (HX1.out.cell 2)
  have l5 := Later.cell (HX1.out.cell 3)
  have l6 := Later.cell (HX1.out.cell 4)
  have l7 := Later.cell (HX1.out.cell 5)
  have l8 := Later.cell (HX1.out.cell 6)
  refine wp_region_mid (w1.alloc (.cells #[.int .u64 (wordM F 0 : Nat), .int .u64 (wordM F 1 : Nat), .int .u64 (wordM F 2 : Nat), .int .u64 (wordM F 3 : Nat), .int .i64 r, .int .i64 q, .int .i64 d] 50)) 3 0 (by kernel_rfl) (by kernel_rfl) (Fr.refl _ _) ?_
  simp only [List.take_succ_cons, List.take_zero, List.drop_succ_cons, List.drop_zero, Nat.reduceAdd]
  repeat (go_big_quiet_step (first | (go_at_call 14; exact later_call (H14.out _))))
  refine wpQuiet_nil ?_
  rintro _ ⟨ddx, rfl⟩
  clear l0 l1 l2 l3 l4 l5 l6 l7 l8
  go_wp2_with (go_at_call 24; refine (H24.out _).mono ?_; rintro e wx2 ⟨vx, rfl, hrx, hfx2⟩)
  have hix := MsV.of_row hrx
  have HLTx := Lib.hid (fun g hg => (hrx.lt g hg).2)
  obtain ⟨Ax, cx, rfl⟩ := row_shape hrx
  simp only [Mid]
  have HIx := Lib.hid hix
  have HFMx := Lib.hid (ddx.fr.then hfx2)
  clear hix hrx hfx2
  repeat (go_big_quiet_step (fail))
  refine wpQuiet_nil ?_
  rintro _ ⟨eex, rfl⟩
  have HFRx := Lib.hid (HFMx.out.then eex.fr)
  have hLB := HL1.out.fr HFRx.out (fun h => h)
  have hMB := HM1.out.fr HFRx.out (fun h => h)
  have hXB := HX1.out.fr HFRx.out (fun h => h)
  have HLB := Lib.hid (hLB.alloc (.cells #[.int .u64 (wordM F 0 : Nat), .int .u64 (wordM F 1 : Nat), .int .u64 (wordM F 2 : Nat), .int .u64 (wordM F 3 : Nat), .int .i64 r, .int .i64 q, .int .i64 d] 50))
  have HXB := Lib.hid (hXB.alloc (.cells #[.int .u64 (wordM F 0 : Nat), .int .u64 (wordM F 1 : Nat), .int .u64 (wordM F 2 : Nat), .int .u64 (wordM F 3 : Nat), .int .i64 r, .int .i64 q, .int .i64 d] 50))
  have HYB := Lib.hid (Blk.new eex.val 50 #[.int .u64 (wordM F 0 : Nat), .int .u64 (wordM F 1 : Nat), .int .u64 (wordM F 2 : Nat), .int .u64 (wordM F 3 : Nat), .int .i64 r, .int .i64 q, .int .i64 d])
  have HFB := Lib.hid ((HF1.out.then HFRx.out).alloc (.cells #[.int .u64 (wordM F 0 : Nat), .int .u64 (wordM F 1 : Nat), .int .u64 (wordM F 2 : Nat), .int .u64 (wordM F 3 : Nat), .int .i64 r, .int .i64 q, .int .i64 d] 50))
  have HIB := Lib.hid ((HIx.out.fr0 eex.fr).fr0 ((Fr.refl _ eex.val).alloc (.cells #[.int .u64 (wordM F 0 : Nat), .int .u64 (wordM F 1 : Nat), .int .u64 (wordM F 2 : Nat), .int .u64 (wordM F 3 : Nat), .int .i64 r, .int .i64 q, .int .i64 d] 50)))
  have hltX := hXB.lt
  have hltM := hMB.lt
  have hszX := (HF1.out.then HFRx.out).size
  have e2 := fun i => hXB.cell i
  have e3 := fun i => hMB.cell i
  clear hLB hMB hXB
  go_wp2_with fail
  refine (H30.out _).mono ?_
  rintro e w3 ⟨rfl, hf3⟩
  clear e2 e3
  have hY3 := HYB.out.fr hf3 (fun h => h)
  have HL3 := Lib.hid ((HLB.out.fr hf3 (fun h => h)).fr ((Fr.refl (fun i => i = eex.val.heap.size) w3).set4 (g := eex.val.heap.size) (Or.inl rfl) (.int .u64 (wordM G 0 : Nat)) (.int .u64 (wordM G 1 : Nat)) (.int .u64 (wordM G 2 : Nat)) (.int .u64 (wordM G 3 : Nat))) (by omega))
  have HX3 := Lib.hid ((HXB.out.fr hf3 (fun h => h)).fr ((Fr.refl (fun i => i = eex.val.heap.size) w3).set4 (g := eex.val.heap.size) (Or.inl rfl) (.int .u64 (wordM G 0 : Nat)) (.int .u64 (wordM G 1 : Nat)) (.int .u64 (wordM G 2 : Nat)) (.int .u64 (wordM G 3 : Nat))) (by omega))
  have HY3 := Lib.hid (hY3.set4 (.int .u64 (wordM G 0 : Nat)) (.int .u64 (wordM G 1 : Nat)) (.int .u64 (wordM G 2 : Nat)) (.int .u64 (wordM G 3 : Nat)))
  have HF3 := Lib.hid ((HFB.out.then hf3).set4 (g := eex.val.heap.size) (Or.inr hszX) (.int .u64 (wordM G 0 : Nat)) (.int .u64 (wordM G 1 : Nat)) (.int .u64 (wordM G 2 : Nat)) (.int .u64 (wordM G 3 : Nat)))
  have HI3 := Lib.hid (((HIB.out.fr0 hf3).fr ((Fr.refl (fun i => i = eex.val.heap.size) w3).set4 (g := eex.val.heap.size) (Or.inl rfl) (.int .u64 (wordM G 0 : Nat)) (.int .u64 (wordM G 1 : Nat)) (.int .u64 (wordM G 2 : Nat)) (.int .u64 (wordM G 3 : Nat))) (fun g hg e => by have := HLTx.out g hg; have := eex.fr.size; omega)))
  have e4 := fun i => hY3.frozen i
  have e5 := fun i => hY3.cell i
  clear hY3 hf3
  go_wp2_with fail
  clear e4 e5
  generalize hw5 : ((((w3.setCell ⟨eex.val.heap.size, 0, none⟩ (.int .u64 (wordM G 0 : Nat))).setCell ⟨eex.val.heap.size, 1, none⟩ (.int .u64 (wordM G 1 : Nat))).setCell ⟨eex.val.heap.size, 2, none⟩ (.int .u64 (wordM G 2 : Nat))).setCell ⟨eex.val.heap.size, 3, none⟩ (.int .u64 (wordM G 3 : Nat))) = w5 at HL3 HX3 HY3 HF3 HI3 ⊢
  clear hw5
  have l0 := Later.cell (HL3.out.cell 0)
  have l1 := Later.cell (HL3.out.cell 1)
  have l2 := Later.cell (HY3.out.cell 0)
  have l3 := Later.cell (HY3.out.cell 1)
  have l4 := Later.cell (HY3.out.cell 2)
  have l5 := Later.cell (HY3.out.cell 3)
  have l6 := Later.cell (HY3.out.cell 4)
  have l7 := Later.cell (HY3.out.cell 5)
  have l8 := Later.cell (HY3.out.cell 6)
  refine wp_region_mid w5 3 0 (by kernel_rfl) (by kernel_rfl) (Fr.refl _ _) ?_
  simp only [List.take_succ_cons, List.take_zero, List.drop_succ_cons, List.drop_zero, Nat.reduceAdd]
  repeat (go_big_quiet_step (first | (go_at_call 14; exact later_call (H14.out _))))
  refine wpQuiet_nil ?_
  rintro _ ⟨ddy, rfl⟩
  clear l0 l1 l2 l3 l4 l5 l6 l7 l8
  go_wp2_with (go_at_call 24; refine (H24y.out _).mono ?_; rintro e wy2 ⟨vy, rfl, hry, hfy2⟩)
  have hiy := MsV.of_row hry
  have HLTy := Lib.hid (fun g hg => (hry.lt g hg).2)
  obtain ⟨Ay, cy, rfl⟩ := row_shape hry
  simp only [Mid]
  have HIy := Lib.hid hiy
  have HFMy := Lib.hid (ddy.fr.then hfy2)
  clear hiy hry hfy2
  repeat (go_big_quiet_step (fail))
  refine wpQuiet_nil ?_
  rintro _ ⟨eey, rfl⟩
  have HFRy := Lib.hid (HFMy.out.then eey.fr)
  have hXC := HX3.out.fr HFRy.out (fun h => h)
  have hLC := HL3.out.fr HFRy.out (fun h => h)
  have HFC := Lib.hid (HF3.out.then HFRy.out)
  have HIC := Lib.hid (HI3.out.fr0 HFRy.out)
  have hXlt := hXC.lt
  have e6 := fun i => hXC.cell i
  have rb : 0 ≤ r - 1 ∧ r - 1 ≤ 31 := by omega
  have HLZ := Lib.hid (hLC.alloc (.cells #[.int .u64 (wordM F 0 : Nat), .int .u64 (wordM F 1 : Nat), .int .u64 (wordM F 2 : Nat), .int .u64 (wordM F 3 : Nat), .int .i64 (r - 1), .int .i64 q, .int .i64 d] 50))
  have HZZ := Lib.hid (Blk.new eey.val 50 #[.int .u64 (wordM F 0 : Nat), .int .u64 (wordM F 1 : Nat), .int .u64 (wordM F 2 : Nat), .int .u64 (wordM F 3 : Nat), .int .i64 (r - 1), .int .i64 q, .int .i64 d])
  have HFZ := Lib.hid (HFC.out.alloc (.cells #[.int .u64 (wordM F 0 : Nat), .int .u64 (wordM F 1 : Nat), .int .u64 (wordM F 2 : Nat), .int .u64 (wordM F 3 : Nat), .int .i64 (r - 1), .int .i64 q, .int .i64 d] 50))
  have HIZ := Lib.hid (HIC.out.fr0 ((Fr.refl _ eey.val).alloc (.cells #[.int .u64 (wordM F 0 : Nat), .int .u64 (wordM F 1 : Nat), .int .u64 (wordM F 2 : Nat), .int .u64 (wordM F 3 : Nat), .int .i64 (r - 1), .int .i64 q, .int .i64 d] 50)))
  clear hLC hXC
  go_wp2_with fail
  clear e6
  have l0 := Later.cell (HLZ.out.cell 0)
  have l1 := Later.cell (HLZ.out.cell 1)
  have l2 := Later.cell (HZZ.out.cell 0)
  have l3 := Later.cell (HZZ.out.cell 1)
  have l4 := Later.cell (HZZ.out.cell 2)
  have l5 := Later.cell (HZZ.out.cell 3)
  have l6 := Later.cell (HZZ.out.cell 4)
  have l7 := Later.cell (HZZ.out.cell 5)
  have l8 := Later.cell (HZZ.out.cell 6)
  refine wp_region_mid (eey.val.alloc (.cells #[.int .u64 (wordM F 0 : Nat), .int .u64 (wordM F 1 : Nat), .int .u64 (wordM F 2 : Nat), .int .u64 (wordM F 3 : Nat), .int .i64 (r - 1), .int .i64 q, .int .i64 d] 50)) 3 0 (by kernel_rfl) (by kernel_rfl) (Fr.refl _ _) ?_
  simp only [List.take_succ_cons, List.take_zero, List.drop_succ_cons, List.drop_zero, Nat.reduceAdd]
  repeat (go_big_quiet_step (first | (go_at_call 14; exact later_call (H14.out _))))
  refine wpQuiet_nil ?_
  rintro _ ⟨ddz, rfl⟩
  clear l0 l1 l2 l3 l4 l5 l6 l7 l8
  go_wp2_with (go_at_call 24; refine (H24z.out _).mono ?_; rintro e wz2 ⟨vz, rfl, hrz, hfz2⟩)
  have hiz := MsV.of_row hrz
  have HLTz := Lib.hid (fun g hg => (hrz.lt g hg).2)
  obtain ⟨Az, cz, rfl⟩ := row_shape hrz
  simp only [Mid]
  have HIz := Lib.hid hiz
  have HFMz := Lib.hid (ddz.fr.then hfz2)
  clear hiz hrz hfz2
  repeat (go_big_quiet_step (fail))
  refine wpQuiet_nil ?_
  rintro _ ⟨eez, rfl⟩
  have HFRz := Lib.hid (HFMz.out.then eez.fr)
  have hZD := HZZ.out.fr HFRz.out (fun h => h)
  have HFD := Lib.hid (HFZ.out.then HFRz.out)
  have HID := Lib.hid (HIZ.out.fr0 HFRz.out)
  have HJD := Lib.hid (HIz.out.fr0 eez.fr)
  have e7 := fun i => hZD.cell i
  clear hZD
  have b1 : decide (r - 1 < 1) = true := decide_eq_true (by omega)
  go_wp2_with fail
  refine (live_any _).mono ?_
  rintro e w9 ⟨rfl, hf9⟩
  go_wp2_with fail
  go_ret
  exact ⟨rfl, HFD.out.then hf9⟩


set_option maxRecDepth 40000 in
set_option maxHeartbeats 4000000 in
theorem more6_yes (s p : Int) (F N : Nat) (r q d : Int) (hr1 : 1 < r) (G : Nat) (hr : 1 ≤ r ∧ r ≤ 32) (Mx My Mz : List Nat)
    (H30 : Hid (∀ W, Calls Try.prog 30 #[.agg #[.int .u64 (wordM F 0 : Nat), .int .u64 (wordM F 1 : Nat), .int .u64 (wordM F 2 : Nat), .int .u64 (wordM F 3 : Nat)], .agg #[.int .u64 (wordM N 0 : Nat), .int .u64 (wordM N 1 : Nat), .int .u64 (wordM N 2 : Nat), .int .u64 (wordM N 3 : Nat)]] W fun e w' => e = .returned (.agg #[.int .u64 (wordM G 0 : Nat), .int .u64 (wordM G 1 : Nat), .int .u64 (wordM G 2 : Nat), .int .u64 (wordM G 3 : Nat)]) ∧ Fr (fun _ => False) W w'))
    (H24 : Hid (∀ W, Calls Try.prog 24 #[.agg #[.int .i64 s, .int .i64 p], .agg #[.int .u64 (wordM F 0 : Nat), .int .u64 (wordM F 1 : Nat), .int .u64 (wordM F 2 : Nat), .int .u64 (wordM F 3 : Nat), .int .i64 r, .int .i64 q, .int .i64 d]] W fun e w' => ∃ v, e = .returned (.tuple #[v, .int .i64 0]) ∧ w'.ownsRow W.heap.size 33 4 v Mx.length (flatM Mx) ∧ Fr (fun _ => False) W w'))
    (H24y : Hid (∀ W, Calls Try.prog 24 #[.agg #[.int .i64 s, .int .i64 p], .agg #[.int .u64 (wordM G 0 : Nat), .int .u64 (wordM G 1 : Nat), .int .u64 (wordM G 2 : Nat), .int .u64 (wordM G 3 : Nat), .int .i64 r, .int .i64 q, .int .i64 d]] W fun e w' => ∃ v, e = .returned (.tuple #[v, .int .i64 0]) ∧ w'.ownsRow W.heap.size 33 4 v My.length (flatM My) ∧ Fr (fun _ => False) W w'))
    (H24z : Hid (∀ W, Calls Try.prog 24 #[.agg #[.int .i64 s, .int .i64 p], .agg #[.int .u64 (wordM F 0 : Nat), .int .u64 (wordM F 1 : Nat), .int .u64 (wordM F 2 : Nat), .int .u64 (wordM F 3 : Nat), .int .i64 (r - 1), .int .i64 q, .int .i64 d]] W fun e w' => ∃ v, e = .returned (.tuple #[v, .int .i64 0]) ∧ w'.ownsRow W.heap.size 33 4 v Mz.length (flatM Mz) ∧ Fr (fun _ => False) W w'))
    (hxl : Mx.length ≤ 32) (hzl : Mx.length = Mz.length + 1) (HSM : Hid (∀ k (h1 : k < Mz.length) (h2 : k < Mx.length), Mx[k] = Mz[k])) (HBD : Hid (∀ M ∈ Mx, M < 2 ^ 256))
    (H14 : Hid (∀ W, Calls Try.prog 14 #[.agg #[.int .i64 s, .int .i64 p]] W fun e w' => e = .returned (.agg #[.int .i64 s, .int .i64 p]) ∧ Fr (fun _ => False) W w'))
    (H25 : Hid (∀ W, Calls Try.prog 25 #[.agg #[.int .u64 (wordM F 0 : Nat), .int .u64 (wordM F 1 : Nat), .int .u64 (wordM F 2 : Nat), .int .u64 (wordM F 3 : Nat), .int .i64 r, .int .i64 q, .int .i64 d]] W fun e w' => e = .returned (.agg #[.int .u64 (wordM F 0 : Nat), .int .u64 (wordM F 1 : Nat), .int .u64 (wordM F 2 : Nat), .int .u64 (wordM F 3 : Nat), .int .i64 r, .int .i64 q, .int .i64 d]) ∧ Fr (fun _ => False) W w'))
    (w : World) : Calls Try.prog 6 #[.agg #[.int .i64 s, .int .i64 p], .agg #[.int .u64 (wordM F 0 : Nat), .int .u64 (wordM F 1 : Nat), .int .u64 (wordM F 2 : Nat), .int .u64 (wordM F 3 : Nat), .int .i64 r, .int .i64 q, .int .i64 d], .agg #[.int .u64 (wordM N 0 : Nat), .int .u64 (wordM N 1 : Nat), .int .u64 (wordM N 2 : Nat), .int .u64 (wordM N 3 : Nat)]] w fun e w' => e = .returned (.bool true) ∧ Fr (fun _ => False) w w' := by
  have hL := ((Blk.new w 23 #[.int .i64 s, .int .i64 p]).alloc (.cells #[.int .u64 (wordM F 0 : Nat), .int .u64 (wordM F 1 : Nat), .int .u64 (wordM F 2 : Nat), .int .u64 (wordM F 3 : Nat), .int .i64 r, .int .i64 q, .int .i64 d] 45)).alloc (.cells #[.int .u64 (wordM N 0 : Nat), .int .u64 (wordM N 1 : Nat), .int .u64 (wordM N 2 : Nat), .int .u64 (wordM N 3 : Nat)] 40)
  have hW := (Blk.new (w.alloc (.cells #[.int .i64 s, .int .i64 p] 23)) 45 #[.int .u64 (wordM F 0 : Nat), .int .u64 (wordM F 1 : Nat), .int .u64 (wordM F 2 : Nat), .int .u64 (wordM F 3 : Nat), .int .i64 r, .int .i64 q, .int .i64 d]).alloc (.cells #[.int .u64 (wordM N 0 : Nat), .int .u64 (wordM N 1 : Nat), .int .u64 (wordM N 2 : Nat), .int .u64 (wordM N 3 : Nat)] 40)
  have hM := Blk.new ((w.alloc (.cells #[.int .i64 s, .int .i64 p] 23)).alloc (.cells #[.int .u64 (wordM F 0 : Nat), .int .u64 (wordM F 1 : Nat), .int .u64 (wordM F 2 : Nat), .int .u64 (wordM F 3 : Nat), .int .i64 r, .int .i64 q, .int .i64 d] 45)) 40 #[.int .u64 (wordM N 0 : Nat), .int .u64 (wordM N 1 : Nat), .int .u64 (wordM N 2 : Nat), .int .u64 (wordM N 3 : Nat)]
  simp only [World.size_alloc] at hW hM
  have hF := ((((Fr.refl (fun _ => False) w).alloc (.cells #[.int .i64 s, .int .i64 p] 23)).alloc (.cells #[.int .u64 (wordM F 0 : Nat), .int .u64 (wordM F 1 : Nat), .int .u64 (wordM F 2 : Nat), .int .u64 (wordM F 3 : Nat), .int .i64 r, .int .i64 q, .int .i64 d] 45)).alloc (.cells #[.int .u64 (wordM N 0 : Nat), .int .u64 (wordM N 1 : Nat), .int .u64 (wordM N 2 : Nat), .int .u64 (wordM N 3 : Nat)] 40))
  have hlt := hM.lt
  have HL := Lib.hid hL
  have HM := Lib.hid hM
  have HF := Lib.hid hF
  have e1 := fun i => hW.cell i
  clear hL hM hF hW
  go_enter Try.func6, Try.ntmps6
  go_wp2_with fail
  refine (H25.out _).mono ?_
  rintro e w1 ⟨rfl, hf1⟩
  clear e1
  have hz1 := hf1.size
  have HL1 := Lib.hid ((HL.out.fr hf1 (fun h => h)).alloc (.cells #[.int .u64 (wordM F 0 : Nat), .int .u64 (wordM F 1 : Nat), .int .u64 (wordM F 2 : Nat), .int .u64 (wordM F 3 : Nat), .int .i64 r, .int .i64 q, .int .i64 d] 50))
  have HM1 := Lib.hid ((HM.out.fr hf1 (fun h => h)).alloc (.cells #[.int .u64 (wordM F 0 : Nat), .int .u64 (wordM F 1 : Nat), .int .u64 (wordM F 2 : Nat), .int .u64 (wordM F 3 : Nat), .int .i64 r, .int .i64 q, .int .i64 d] 50))
  have HX1 := Lib.hid (Blk.new w1 50 #[.int .u64 (wordM F 0 : Nat), .int .u64 (wordM F 1 : Nat), .int .u64 (wordM F 2 : Nat), .int .u64 (wordM F 3 : Nat), .int .i64 r, .int .i64 q, .int .i64 d])
  have HF1 := Lib.hid ((HF.out.then hf1).alloc (.cells #[.int .u64 (wordM F 0 : Nat), .int .u64 (wordM F 1 : Nat), .int .u64 (wordM F 2 : Nat), .int .u64 (wordM F 3 : Nat), .int .i64 r, .int .i64 q, .int .i64 d] 50))
  clear hf1 HL HM HF
  go_wp2_with fail
  have l0 := Later.cell (HL1.out.cell 0)
  have l1 := Later.cell (HL1.out.cell 1)
  have l2 := Later.cell (HX1.out.cell 0)
  have l3 := Later.cell (HX1.out.cell 1)
  have l4 := Later.cell (HX1.out.cell 2)
  have l5 := Later.cell (HX1.out.cell 3)
  have l6 := Later.cell (HX1.out.cell 4)
  have l7 := Later.cell (HX1.out.cell 5)
  have l8 := Later.cell (HX1.out.cell 6)
  refine wp_region_mid (w1.alloc (.cells #[.int .u64 (wordM F 0 : Nat), .int .u64 (wordM F 1 : Nat), .int .u64 (wordM F 2 : Nat), .int .u64 (wordM F 3 : Nat), .int .i64 r, .int .i64 q, .int .i64 d] 50)) 3 0 (by kernel_rfl) (by kernel_rfl) (Fr.refl _ _) ?_
  simp only [List.take_succ_cons, List.take_zero, List.drop_succ_cons, List.drop_zero, Nat.reduceAdd]
  repeat (go_big_quiet_step (first | (go_at_call 14; exact later_call (H14.out _))))
  refine wpQuiet_nil ?_
  rintro _ ⟨ddx, rfl⟩
  clear l0 l1 l2 l3 l4 l5 l6 l7 l8
  go_wp2_with (go_at_call 24; refine (H24.out _).mono ?_; rintro e wx2 ⟨vx, rfl, hrx, hfx2⟩)
  have hix := MsV.of_row hrx
  have HLTx := Lib.hid (fun g hg => (hrx.lt g hg).2)
  obtain ⟨Ax, cx, rfl⟩ := row_shape hrx
  simp only [Mid]
  have HIx := Lib.hid hix
  have HFMx := Lib.hid (ddx.fr.then hfx2)
  clear hix hrx hfx2
  repeat (go_big_quiet_step (fail))
  refine wpQuiet_nil ?_
  rintro _ ⟨eex, rfl⟩
  have HFRx := Lib.hid (HFMx.out.then eex.fr)
  have hLB := HL1.out.fr HFRx.out (fun h => h)
  have hMB := HM1.out.fr HFRx.out (fun h => h)
  have hXB := HX1.out.fr HFRx.out (fun h => h)
  have HLB := Lib.hid (hLB.alloc (.cells #[.int .u64 (wordM F 0 : Nat), .int .u64 (wordM F 1 : Nat), .int .u64 (wordM F 2 : Nat), .int .u64 (wordM F 3 : Nat), .int .i64 r, .int .i64 q, .int .i64 d] 50))
  have HXB := Lib.hid (hXB.alloc (.cells #[.int .u64 (wordM F 0 : Nat), .int .u64 (wordM F 1 : Nat), .int .u64 (wordM F 2 : Nat), .int .u64 (wordM F 3 : Nat), .int .i64 r, .int .i64 q, .int .i64 d] 50))
  have HYB := Lib.hid (Blk.new eex.val 50 #[.int .u64 (wordM F 0 : Nat), .int .u64 (wordM F 1 : Nat), .int .u64 (wordM F 2 : Nat), .int .u64 (wordM F 3 : Nat), .int .i64 r, .int .i64 q, .int .i64 d])
  have HFB := Lib.hid ((HF1.out.then HFRx.out).alloc (.cells #[.int .u64 (wordM F 0 : Nat), .int .u64 (wordM F 1 : Nat), .int .u64 (wordM F 2 : Nat), .int .u64 (wordM F 3 : Nat), .int .i64 r, .int .i64 q, .int .i64 d] 50))
  have HIB := Lib.hid ((HIx.out.fr0 eex.fr).fr0 ((Fr.refl _ eex.val).alloc (.cells #[.int .u64 (wordM F 0 : Nat), .int .u64 (wordM F 1 : Nat), .int .u64 (wordM F 2 : Nat), .int .u64 (wordM F 3 : Nat), .int .i64 r, .int .i64 q, .int .i64 d] 50)))
  have hltX := hXB.lt
  have hltM := hMB.lt
  have hszX := (HF1.out.then HFRx.out).size
  have e2 := fun i => hXB.cell i
  have e3 := fun i => hMB.cell i
  clear hLB hMB hXB
  go_wp2_with fail
  refine (H30.out _).mono ?_
  rintro e w3 ⟨rfl, hf3⟩
  clear e2 e3
  have hY3 := HYB.out.fr hf3 (fun h => h)
  have HL3 := Lib.hid ((HLB.out.fr hf3 (fun h => h)).fr ((Fr.refl (fun i => i = eex.val.heap.size) w3).set4 (g := eex.val.heap.size) (Or.inl rfl) (.int .u64 (wordM G 0 : Nat)) (.int .u64 (wordM G 1 : Nat)) (.int .u64 (wordM G 2 : Nat)) (.int .u64 (wordM G 3 : Nat))) (by omega))
  have HX3 := Lib.hid ((HXB.out.fr hf3 (fun h => h)).fr ((Fr.refl (fun i => i = eex.val.heap.size) w3).set4 (g := eex.val.heap.size) (Or.inl rfl) (.int .u64 (wordM G 0 : Nat)) (.int .u64 (wordM G 1 : Nat)) (.int .u64 (wordM G 2 : Nat)) (.int .u64 (wordM G 3 : Nat))) (by omega))
  have HY3 := Lib.hid (hY3.set4 (.int .u64 (wordM G 0 : Nat)) (.int .u64 (wordM G 1 : Nat)) (.int .u64 (wordM G 2 : Nat)) (.int .u64 (wordM G 3 : Nat)))
  have HF3 := Lib.hid ((HFB.out.then hf3).set4 (g := eex.val.heap.size) (Or.inr hszX) (.int .u64 (wordM G 0 : Nat)) (.int .u64 (wordM G 1 : Nat)) (.int .u64 (wordM G 2 : Nat)) (.int .u64 (wordM G 3 : Nat)))
  have HI3 := Lib.hid (((HIB.out.fr0 hf3).fr ((Fr.refl (fun i => i = eex.val.heap.size) w3).set4 (g := eex.val.heap.size) (Or.inl rfl) (.int .u64 (wordM G 0 : Nat)) (.int .u64 (wordM G 1 : Nat)) (.int .u64 (wordM G 2 : Nat)) (.int .u64 (wordM G 3 : Nat))) (fun g hg e => by have := HLTx.out g hg; have := eex.fr.size; omega)))
  have e4 := fun i => hY3.frozen i
  have e5 := fun i => hY3.cell i
  clear hY3 hf3
  go_wp2_with fail
  clear e4 e5
  generalize hw5 : ((((w3.setCell ⟨eex.val.heap.size, 0, none⟩ (.int .u64 (wordM G 0 : Nat))).setCell ⟨eex.val.heap.size, 1, none⟩ (.int .u64 (wordM G 1 : Nat))).setCell ⟨eex.val.heap.size, 2, none⟩ (.int .u64 (wordM G 2 : Nat))).setCell ⟨eex.val.heap.size, 3, none⟩ (.int .u64 (wordM G 3 : Nat))) = w5 at HL3 HX3 HY3 HF3 HI3 ⊢
  clear hw5
  have l0 := Later.cell (HL3.out.cell 0)
  have l1 := Later.cell (HL3.out.cell 1)
  have l2 := Later.cell (HY3.out.cell 0)
  have l3 := Later.cell (HY3.out.cell 1)
  have l4 := Later.cell (HY3.out.cell 2)
  have l5 := Later.cell (HY3.out.cell 3)
  have l6 := Later.cell (HY3.out.cell 4)
  have l7 := Later.cell (HY3.out.cell 5)
  have l8 := Later.cell (HY3.out.cell 6)
  refine wp_region_mid w5 3 0 (by kernel_rfl) (by kernel_rfl) (Fr.refl _ _) ?_
  simp only [List.take_succ_cons, List.take_zero, List.drop_succ_cons, List.drop_zero, Nat.reduceAdd]
  repeat (go_big_quiet_step (first | (go_at_call 14; exact later_call (H14.out _))))
  refine wpQuiet_nil ?_
  rintro _ ⟨ddy, rfl⟩
  clear l0 l1 l2 l3 l4 l5 l6 l7 l8
  go_wp2_with (go_at_call 24; refine (H24y.out _).mono ?_; rintro e wy2 ⟨vy, rfl, hry, hfy2⟩)
  have hiy := MsV.of_row hry
  have HLTy := Lib.hid (fun g hg => (hry.lt g hg).2)
  obtain ⟨Ay, cy, rfl⟩ := row_shape hry
  simp only [Mid]
  have HIy := Lib.hid hiy
  have HFMy := Lib.hid (ddy.fr.then hfy2)
  clear hiy hry hfy2
  repeat (go_big_quiet_step (fail))
  refine wpQuiet_nil ?_
  rintro _ ⟨eey, rfl⟩
  have HFRy := Lib.hid (HFMy.out.then eey.fr)
  have hXC := HX3.out.fr HFRy.out (fun h => h)
  have hLC := HL3.out.fr HFRy.out (fun h => h)
  have HFC := Lib.hid (HF3.out.then HFRy.out)
  have HIC := Lib.hid (HI3.out.fr0 HFRy.out)
  have hXlt := hXC.lt
  have e6 := fun i => hXC.cell i
  have rb : 0 ≤ r - 1 ∧ r - 1 ≤ 31 := by omega
  have HLZ := Lib.hid (hLC.alloc (.cells #[.int .u64 (wordM F 0 : Nat), .int .u64 (wordM F 1 : Nat), .int .u64 (wordM F 2 : Nat), .int .u64 (wordM F 3 : Nat), .int .i64 (r - 1), .int .i64 q, .int .i64 d] 50))
  have HZZ := Lib.hid (Blk.new eey.val 50 #[.int .u64 (wordM F 0 : Nat), .int .u64 (wordM F 1 : Nat), .int .u64 (wordM F 2 : Nat), .int .u64 (wordM F 3 : Nat), .int .i64 (r - 1), .int .i64 q, .int .i64 d])
  have HFZ := Lib.hid (HFC.out.alloc (.cells #[.int .u64 (wordM F 0 : Nat), .int .u64 (wordM F 1 : Nat), .int .u64 (wordM F 2 : Nat), .int .u64 (wordM F 3 : Nat), .int .i64 (r - 1), .int .i64 q, .int .i64 d] 50))
  have HIZ := Lib.hid (HIC.out.fr0 ((Fr.refl _ eey.val).alloc (.cells #[.int .u64 (wordM F 0 : Nat), .int .u64 (wordM F 1 : Nat), .int .u64 (wordM F 2 : Nat), .int .u64 (wordM F 3 : Nat), .int .i64 (r - 1), .int .i64 q, .int .i64 d] 50)))
  clear hLC hXC
  go_wp2_with fail
  clear e6
  have l0 := Later.cell (HLZ.out.cell 0)
  have l1 := Later.cell (HLZ.out.cell 1)
  have l2 := Later.cell (HZZ.out.cell 0)
  have l3 := Later.cell (HZZ.out.cell 1)
  have l4 := Later.cell (HZZ.out.cell 2)
  have l5 := Later.cell (HZZ.out.cell 3)
  have l6 := Later.cell (HZZ.out.cell 4)
  have l7 := Later.cell (HZZ.out.cell 5)
  have l8 := Later.cell (HZZ.out.cell 6)
  refine wp_region_mid (eey.val.alloc (.cells #[.int .u64 (wordM F 0 : Nat), .int .u64 (wordM F 1 : Nat), .int .u64 (wordM F 2 : Nat), .int .u64 (wordM F 3 : Nat), .int .i64 (r - 1), .int .i64 q, .int .i64 d] 50)) 3 0 (by kernel_rfl) (by kernel_rfl) (Fr.refl _ _) ?_
  simp only [List.take_succ_cons, List.take_zero, List.drop_succ_cons, List.drop_zero, Nat.reduceAdd]
  repeat (go_big_quiet_step (first | (go_at_call 14; exact later_call (H14.out _))))
  refine wpQuiet_nil ?_
  rintro _ ⟨ddz, rfl⟩
  clear l0 l1 l2 l3 l4 l5 l6 l7 l8
  go_wp2_with (go_at_call 24; refine (H24z.out _).mono ?_; rintro e wz2 ⟨vz, rfl, hrz, hfz2⟩)
  have hiz := MsV.of_row hrz
  have HLTz := Lib.hid (fun g hg => (hrz.lt g hg).2)
  obtain ⟨Az, cz, rfl⟩ := row_shape hrz
  simp only [Mid]
  have HIz := Lib.hid hiz
  have HFMz := Lib.hid (ddz.fr.then hfz2)
  clear hiz hrz hfz2
  repeat (go_big_quiet_step (fail))
  refine wpQuiet_nil ?_
  rintro _ ⟨eez, rfl⟩
  have HFRz := Lib.hid (HFMz.out.then eez.fr)
  have hZD := HZZ.out.fr HFRz.out (fun h => h)
  have HFD := Lib.hid (HFZ.out.then HFRz.out)
  have HID := Lib.hid (HIZ.out.fr0 HFRz.out)
  have HJD := Lib.hid (HIz.out.fr0 eez.fr)
  have e7 := fun i => hZD.cell i
  clear hZD
  have b1 : decide (r - 1 < 1) = false := decide_eq_false (by omega)
  go_wp2_with fail
  clear e7
  go_loopw [16] (fun i wr => ∃ k : Nat, k ≤ Mz.length ∧ i = .int .i64 k ∧ Fr (fun _ => False) eez.val wr) (fun i _ => Mz.length - (intOf i).toNat)
  case atStart => exact ⟨0, Nat.zero_le _, rfl, Fr.refl _ _⟩
  case round =>
    obtain ⟨k, hk, rfl, hfr⟩ := hrel
    by_cases hlt : k < Mz.length
    · have hlt2 : k < Mx.length := by omega
      have hsm := HSM.out k hlt hlt2
      obtain ⟨B, cp, hv, hc⟩ := HID.out.fr0 hfr
      obtain ⟨B', cp', hv', hc'⟩ := HJD.out.fr0 hfr
      cases hv
      cases hv'
      obtain ⟨g, off, rfl, c1⟩ := hc k hlt2
      obtain ⟨g', off', rfl, c2⟩ := hc' k hlt
      have hm1 := HBD.out _ (List.getElem_mem hlt2)
      rw [← hsm] at c2
      generalize Mx[k] = x at *
      have hq := fun W => eq_masks hm1 hm1 33 Try.underlying33 W
      rw [decide_eq_true rfl] at hq
      simp only [valM, Ytcefadbnmpjeiaa.cellsM] at hq
      obtain ⟨a0, a1, a2, a3⟩ := MsV.at4 c1
      obtain ⟨a4, a5, a6, a7⟩ := MsV.at4 c2
      have l0 := Later.cell a0
      have l1 := Later.cell a1
      have l2 := Later.cell a2
      have l3 := Later.cell a3
      have l4 := Later.cell a4
      have l5 := Later.cell a5
      have l6 := Later.cell a6
      have l7 := Later.cell a7
      clear c1 c2 hc hc' a0 a1 a2 a3 a4 a5 a6 a7 hsm
      go_wp2_with fail
      refine wp_region_later wr (by kernel_rfl) (by kernel_rfl) (Fr.refl _ _) ?_
      repeat (go_big_quiet_step (fail))
      refine wpQuiet_nil ?_
      rintro _ ⟨d9, rfl⟩
      go_wp2
      go_roundw
      case rel => exact ⟨k + 1, by omega, by go_num, hfr.then d9.fr⟩
      case measure => simp [intOf]; omega
    · obtain rfl : k = Mz.length := by omega
      have b5 : ((Mz.length : Int) == (Mx.length : Int) - 1) = true := by simp; omega
      have b6 : 0 ≤ (Mx.length : Int) - 1 ∧ (Mx.length : Int) - 1 ≤ 31 := by omega
      go_wp2_with fail
      refine (live_any _).mono ?_
      rintro e w9 ⟨rfl, hf9⟩
      go_wp2_with fail
      go_ret
      exact ⟨rfl, (HFD.out.then hfr).then hf9⟩


end Go.Proofs.Ytcefadbnmpjeiaa
