/-
  CoresApart, walked (made by gen_apart.py).
-/
import Derived.Test.YtcefadbnmpjeiaaDp
import Derived.Test.YtcefadbnmpjeiaaSm
import Derived.Test.YtcefadbnmpjeiaaWi
import Derived.Test.YtcefadbnmpjeiaaArgW
import Derived.Test.YtcefadbnmpjeiaaN
namespace Go.Proofs.Ytcefadbnmpjeiaa
open Go.RowKit Go.Maps Go.Shelf


set_option maxRecDepth 40000 in
set_option maxHeartbeats 8000000 in
theorem apart7_no (s p : Int) (F : Nat) (r q d : Int) (Ms : List Nat) (ee : Int) (hee : ee ≠ 0) (hms : Ms = [])
    (H14 : Hid (∀ W, Calls Try.prog 14 #[.agg #[.int .i64 s, .int .i64 p]] W fun e w' => e = .returned (.agg #[.int .i64 s, .int .i64 p]) ∧ Fr (fun _ => False) W w'))
    (H25 : Hid (∀ W, Calls Try.prog 25 #[.agg #[.int .u64 (wordM F 0 : Nat), .int .u64 (wordM F 1 : Nat), .int .u64 (wordM F 2 : Nat), .int .u64 (wordM F 3 : Nat), .int .i64 r, .int .i64 q, .int .i64 d]] W fun e w' => e = .returned (.agg #[.int .u64 (wordM F 0 : Nat), .int .u64 (wordM F 1 : Nat), .int .u64 (wordM F 2 : Nat), .int .u64 (wordM F 3 : Nat), .int .i64 r, .int .i64 q, .int .i64 d]) ∧ Fr (fun _ => False) W w'))
    (H24 : Hid (∀ W, Calls Try.prog 24 #[.agg #[.int .i64 s, .int .i64 p], .agg #[.int .u64 (wordM F 0 : Nat), .int .u64 (wordM F 1 : Nat), .int .u64 (wordM F 2 : Nat), .int .u64 (wordM F 3 : Nat), .int .i64 r, .int .i64 q, .int .i64 d]] W fun e w' => ∃ v, e = .returned (.tuple #[v, .int .i64 ee]) ∧ w'.ownsRow W.heap.size 33 4 v Ms.length (flatM Ms) ∧ Fr (fun _ => False) W w'))
    (w : World) : Calls Try.prog 7 #[.agg #[.int .i64 s, .int .i64 p], .agg #[.int .u64 (wordM F 0 : Nat), .int .u64 (wordM F 1 : Nat), .int .u64 (wordM F 2 : Nat), .int .u64 (wordM F 3 : Nat), .int .i64 r, .int .i64 q, .int .i64 d]] w fun e w' => e = .returned (.bool true) ∧ Fr (fun _ => False) w w' := by
  have hW := Blk.new (w.alloc (.cells #[.int .i64 s, .int .i64 p] 23)) 45 #[.int .u64 (wordM F 0 : Nat), .int .u64 (wordM F 1 : Nat), .int .u64 (wordM F 2 : Nat), .int .u64 (wordM F 3 : Nat), .int .i64 r, .int .i64 q, .int .i64 d]
  rw [World.size_alloc] at hW
  have hB := (Blk.new w 23 #[.int .i64 s, .int .i64 p]).alloc (.cells #[.int .u64 (wordM F 0 : Nat), .int .u64 (wordM F 1 : Nat), .int .u64 (wordM F 2 : Nat), .int .u64 (wordM F 3 : Nat), .int .i64 r, .int .i64 q, .int .i64 d] 45)
  have HF := Lib.hid (((Fr.refl (fun _ => False) w).alloc (.cells #[.int .i64 s, .int .i64 p] 23)).alloc (.cells #[.int .u64 (wordM F 0 : Nat), .int .u64 (wordM F 1 : Nat), .int .u64 (wordM F 2 : Nat), .int .u64 (wordM F 3 : Nat), .int .i64 r, .int .i64 q, .int .i64 d] 45))
  have l0 := Later.cell (hB.cell 0)
  have l1 := Later.cell (hB.cell 1)
  have l2 := Later.cell (hW.cell 0)
  have l3 := Later.cell (hW.cell 1)
  have l4 := Later.cell (hW.cell 2)
  have l5 := Later.cell (hW.cell 3)
  have l6 := Later.cell (hW.cell 4)
  have l7 := Later.cell (hW.cell 5)
  have l8 := Later.cell (hW.cell 6)
  have HB := Lib.hid hB
  have HW := Lib.hid hW
  clear hB hW
  go_enter Try.func7, Try.ntmps7
  go_wp2_with fail
  refine wp_region_mid ((w.alloc (.cells #[.int .i64 s, .int .i64 p] 23)).alloc (.cells #[.int .u64 (wordM F 0 : Nat), .int .u64 (wordM F 1 : Nat), .int .u64 (wordM F 2 : Nat), .int .u64 (wordM F 3 : Nat), .int .i64 r, .int .i64 q, .int .i64 d] 45)) 4 0 (by kernel_rfl) (by kernel_rfl) (Fr.refl _ _) ?_
  simp only [List.take_succ_cons, List.take_zero, List.drop_succ_cons, List.drop_zero, Nat.reduceAdd]
  repeat (go_big_quiet_step (first
    | (go_at_call 14; exact later_call (H14.out _))
    | (go_at_call 25; exact later_call (H25.out _))))
  refine wpQuiet_nil ?_
  rintro _ ⟨dd, rfl⟩
  clear l0 l1 l2 l3 l4 l5 l6 l7 l8
  go_wp2_with (go_at_call 24; refine (H24.out _).mono ?_; rintro e w2 ⟨v2, rfl, hr2, hf2⟩)
  have hi2 := MsV.of_row hr2
  have HLT := Lib.hid (fun g hg => (hr2.lt g hg).2)
  obtain ⟨A2, c2, rfl⟩ := row_shape hr2
  have HI2 := Lib.hid hi2
  have hB2 := (HB.out.fr dd.fr (fun h => h)).fr hf2 (fun h => h)
  have hW2 := (HW.out.fr dd.fr (fun h => h)).fr hf2 (fun h => h)
  have HF2 := Lib.hid ((HF.out.then dd.fr).then hf2)
  clear hi2 hr2 hf2 HB HW HF
  simp only [Mid]
  repeat (go_big_quiet_step (fail))
  refine wpQuiet_nil ?_
  rintro _ ⟨d2, rfl⟩
  have hB3 := hB2.fr d2.fr (fun h => h)
  have hW3 := hW2.fr d2.fr (fun h => h)
  have HI3 := Lib.hid (HI2.out.fr0 d2.fr)
  have HF3 := Lib.hid (HF2.out.then d2.fr)
  clear hB2 hW2 HI2 HF2
  have b1 : (ee == 0) = false := by simpa using hee
  subst hms
  go_wp2_with fail
  refine (live_any _).mono ?_
  rintro e w7 ⟨rfl, hf7⟩
  go_wp2_with fail
  go_ret
  exact ⟨rfl, HF3.out.then hf7⟩


set_option maxRecDepth 40000 in
set_option maxHeartbeats 8000000 in
theorem apart7_yes (s p : Int) (F : Nat) (R P : Nat) (d : Int) (Ms : List Nat) (ee : Int) (hee : ee = 0) (M : Nat) (hl : Ms.length = R) (hRb : 1 ≤ R ∧ R ≤ 32) (hPb : 1 ≤ P ∧ P ≤ 256) (Us : List Nat) (HP : Hid (ApartP F M P Ms Us))
    (H16 : Hid (∀ W, Calls Try.prog 16 #[.agg #[.int .i64 s, .int .i64 p]] W fun e w' => e = .returned (.agg #[.int .u64 (wordM M 0 : Nat), .int .u64 (wordM M 1 : Nat), .int .u64 (wordM M 2 : Nat), .int .u64 (wordM M 3 : Nat)]) ∧ Fr (fun _ => False) W w'))
    (H14 : Hid (∀ W, Calls Try.prog 14 #[.agg #[.int .i64 s, .int .i64 p]] W fun e w' => e = .returned (.agg #[.int .i64 s, .int .i64 p]) ∧ Fr (fun _ => False) W w'))
    (H25 : Hid (∀ W, Calls Try.prog 25 #[.agg #[.int .u64 (wordM F 0 : Nat), .int .u64 (wordM F 1 : Nat), .int .u64 (wordM F 2 : Nat), .int .u64 (wordM F 3 : Nat), .int .i64 (R : Nat), .int .i64 (P : Nat), .int .i64 d]] W fun e w' => e = .returned (.agg #[.int .u64 (wordM F 0 : Nat), .int .u64 (wordM F 1 : Nat), .int .u64 (wordM F 2 : Nat), .int .u64 (wordM F 3 : Nat), .int .i64 (R : Nat), .int .i64 (P : Nat), .int .i64 d]) ∧ Fr (fun _ => False) W w'))
    (H24 : Hid (∀ W, Calls Try.prog 24 #[.agg #[.int .i64 s, .int .i64 p], .agg #[.int .u64 (wordM F 0 : Nat), .int .u64 (wordM F 1 : Nat), .int .u64 (wordM F 2 : Nat), .int .u64 (wordM F 3 : Nat), .int .i64 (R : Nat), .int .i64 (P : Nat), .int .i64 d]] W fun e w' => ∃ v, e = .returned (.tuple #[v, .int .i64 ee]) ∧ w'.ownsRow W.heap.size 33 4 v Ms.length (flatM Ms) ∧ Fr (fun _ => False) W w'))
    (w : World) : Calls Try.prog 7 #[.agg #[.int .i64 s, .int .i64 p], .agg #[.int .u64 (wordM F 0 : Nat), .int .u64 (wordM F 1 : Nat), .int .u64 (wordM F 2 : Nat), .int .u64 (wordM F 3 : Nat), .int .i64 (R : Nat), .int .i64 (P : Nat), .int .i64 d]] w fun e w' => e = .returned (.bool true) ∧ Fr (fun _ => False) w w' := by
  have hW := Blk.new (w.alloc (.cells #[.int .i64 s, .int .i64 p] 23)) 45 #[.int .u64 (wordM F 0 : Nat), .int .u64 (wordM F 1 : Nat), .int .u64 (wordM F 2 : Nat), .int .u64 (wordM F 3 : Nat), .int .i64 (R : Nat), .int .i64 (P : Nat), .int .i64 d]
  rw [World.size_alloc] at hW
  have hB := (Blk.new w 23 #[.int .i64 s, .int .i64 p]).alloc (.cells #[.int .u64 (wordM F 0 : Nat), .int .u64 (wordM F 1 : Nat), .int .u64 (wordM F 2 : Nat), .int .u64 (wordM F 3 : Nat), .int .i64 (R : Nat), .int .i64 (P : Nat), .int .i64 d] 45)
  have HF := Lib.hid (((Fr.refl (fun _ => False) w).alloc (.cells #[.int .i64 s, .int .i64 p] 23)).alloc (.cells #[.int .u64 (wordM F 0 : Nat), .int .u64 (wordM F 1 : Nat), .int .u64 (wordM F 2 : Nat), .int .u64 (wordM F 3 : Nat), .int .i64 (R : Nat), .int .i64 (P : Nat), .int .i64 d] 45))
  have l0 := Later.cell (hB.cell 0)
  have l1 := Later.cell (hB.cell 1)
  have l2 := Later.cell (hW.cell 0)
  have l3 := Later.cell (hW.cell 1)
  have l4 := Later.cell (hW.cell 2)
  have l5 := Later.cell (hW.cell 3)
  have l6 := Later.cell (hW.cell 4)
  have l7 := Later.cell (hW.cell 5)
  have l8 := Later.cell (hW.cell 6)
  have HB := Lib.hid hB
  have HW := Lib.hid hW
  clear hB hW
  go_enter Try.func7, Try.ntmps7
  go_wp2_with fail
  refine wp_region_mid ((w.alloc (.cells #[.int .i64 s, .int .i64 p] 23)).alloc (.cells #[.int .u64 (wordM F 0 : Nat), .int .u64 (wordM F 1 : Nat), .int .u64 (wordM F 2 : Nat), .int .u64 (wordM F 3 : Nat), .int .i64 (R : Nat), .int .i64 (P : Nat), .int .i64 d] 45)) 4 0 (by kernel_rfl) (by kernel_rfl) (Fr.refl _ _) ?_
  simp only [List.take_succ_cons, List.take_zero, List.drop_succ_cons, List.drop_zero, Nat.reduceAdd]
  repeat (go_big_quiet_step (first
    | (go_at_call 14; exact later_call (H14.out _))
    | (go_at_call 25; exact later_call (H25.out _))))
  refine wpQuiet_nil ?_
  rintro _ ⟨dd, rfl⟩
  clear l0 l1 l2 l3 l4 l5 l6 l7 l8
  go_wp2_with (go_at_call 24; refine (H24.out _).mono ?_; rintro e w2 ⟨v2, rfl, hr2, hf2⟩)
  have hi2 := MsV.of_row hr2
  have HLT := Lib.hid (fun g hg => (hr2.lt g hg).2)
  obtain ⟨A2, c2, rfl⟩ := row_shape hr2
  have HI2 := Lib.hid hi2
  have hB2 := (HB.out.fr dd.fr (fun h => h)).fr hf2 (fun h => h)
  have hW2 := (HW.out.fr dd.fr (fun h => h)).fr hf2 (fun h => h)
  have HF2 := Lib.hid ((HF.out.then dd.fr).then hf2)
  clear hi2 hr2 hf2 HB HW HF
  simp only [Mid]
  repeat (go_big_quiet_step (fail))
  refine wpQuiet_nil ?_
  rintro _ ⟨d2, rfl⟩
  have hB3 := hB2.fr d2.fr (fun h => h)
  have hW3 := hW2.fr d2.fr (fun h => h)
  have HI3 := Lib.hid (HI2.out.fr0 d2.fr)
  have HF3 := Lib.hid (HF2.out.then d2.fr)
  clear hB2 hW2 HI2 HF2
  subst hee
  have e2 := fun i => hW3.cell i
  go_wp2_with fail
  refine (H25.out _).mono ?_
  rintro e w4 ⟨rfl, hf4⟩
  clear e2
  have HB4 := Lib.hid (((hB3.fr hf4 (fun h => h)).alloc (.cells #[.int .u64 (wordM F 0 : Nat), .int .u64 (wordM F 1 : Nat), .int .u64 (wordM F 2 : Nat), .int .u64 (wordM F 3 : Nat), .int .i64 (R : Nat), .int .i64 (P : Nat), .int .i64 d] 50)).alloc (.cells #[.int .u64 0, .int .u64 0, .int .u64 0, .int .u64 0] 33))
  have HW4 := Lib.hid (((hW3.fr hf4 (fun h => h)).alloc (.cells #[.int .u64 (wordM F 0 : Nat), .int .u64 (wordM F 1 : Nat), .int .u64 (wordM F 2 : Nat), .int .u64 (wordM F 3 : Nat), .int .i64 (R : Nat), .int .i64 (P : Nat), .int .i64 d] 50)).alloc (.cells #[.int .u64 0, .int .u64 0, .int .u64 0, .int .u64 0] 33))
  have hX4 := (Blk.new w4 50 #[.int .u64 (wordM F 0 : Nat), .int .u64 (wordM F 1 : Nat), .int .u64 (wordM F 2 : Nat), .int .u64 (wordM F 3 : Nat), .int .i64 (R : Nat), .int .i64 (P : Nat), .int .i64 d]).alloc (.cells #[.int .u64 0, .int .u64 0, .int .u64 0, .int .u64 0] 33)
  have hA4 := Blk.new (w4.alloc (.cells #[.int .u64 (wordM F 0 : Nat), .int .u64 (wordM F 1 : Nat), .int .u64 (wordM F 2 : Nat), .int .u64 (wordM F 3 : Nat), .int .i64 (R : Nat), .int .i64 (P : Nat), .int .i64 d] 50)) 33 #[.int .u64 0, .int .u64 0, .int .u64 0, .int .u64 0]
  rw [World.size_alloc] at hA4
  have HX4 := Lib.hid hX4
  have HA4 := Lib.hid hA4
  have HI4 := Lib.hid (((HI3.out.fr0 hf4).fr0 ((Fr.refl _ w4).alloc (.cells #[.int .u64 (wordM F 0 : Nat), .int .u64 (wordM F 1 : Nat), .int .u64 (wordM F 2 : Nat), .int .u64 (wordM F 3 : Nat), .int .i64 (R : Nat), .int .i64 (P : Nat), .int .i64 d] 50))).fr0 ((Fr.refl _ (w4.alloc (.cells #[.int .u64 (wordM F 0 : Nat), .int .u64 (wordM F 1 : Nat), .int .u64 (wordM F 2 : Nat), .int .u64 (wordM F 3 : Nat), .int .i64 (R : Nat), .int .i64 (P : Nat), .int .i64 d] 50))).alloc (.cells #[.int .u64 0, .int .u64 0, .int .u64 0, .int .u64 0] 33)))
  have HF4 := Lib.hid (((HF3.out.then hf4).alloc (.cells #[.int .u64 (wordM F 0 : Nat), .int .u64 (wordM F 1 : Nat), .int .u64 (wordM F 2 : Nat), .int .u64 (wordM F 3 : Nat), .int .i64 (R : Nat), .int .i64 (P : Nat), .int .i64 d] 50)).alloc (.cells #[.int .u64 0, .int .u64 0, .int .u64 0, .int .u64 0] 33))
  have hs4 := HF4.out.size
  have hs5 := (HF3.out.then hf4).size
  have hs6 := Nat.le_trans d2.fr.size hf4.size
  have hb0 := (hB3.fr hf4 (fun h => h)).lt
  have hw0 := (hW3.fr hf4 (fun h => h)).lt
  clear hX4 hA4 hB3 hW3 hf4
  go_wp2_with fail
  generalize hw5 : (w4.alloc (.cells #[.int .u64 (wordM F 0 : Nat), .int .u64 (wordM F 1 : Nat), .int .u64 (wordM F 2 : Nat), .int .u64 (wordM F 3 : Nat), .int .i64 (R : Nat), .int .i64 (P : Nat), .int .i64 d] 50)).alloc (.cells #[.int .u64 0, .int .u64 0, .int .u64 0, .int .u64 0] 33) = w5 at HB4 HW4 HX4 HA4 HI4 HF4 hs4 ⊢
  clear hw5
  generalize hAA : w4.heap.size = g4 at *
  go_loopw [9] (fun i wr => ∃ (k : Nat) (U : Nat), k ≤ Ms.length ∧ i = .int .i64 k ∧ Hid (Us[k]? = some U) ∧ Blk wr (g4 + 1) 33 (cellsM U) ∧ Fr (fun i => i = g4 + 1) w5 wr) (fun i _ => Ms.length - (intOf i).toNat)
  case atStart => exact ⟨0, 0, Nat.zero_le _, rfl, HP.out.zero, by rw [zero_cells]; exact HA4.out, Fr.refl _ _⟩
  case round =>
    obtain ⟨k, U, hk, rfl, hU, hA, hfr⟩ := hrel
    have hBr := HB4.out.fr hfr (by omega)
    have hWr := HW4.out.fr hfr (by omega)
    have hXr := HX4.out.fr hfr (by omega)
    have hIr := HI4.out.fr hfr (fun g hg e => by have := HLT.out g hg; omega)
    by_cases hlt : k < Ms.length
    · obtain ⟨B, cp, hv, hc⟩ := hIr
      cases hv
      obtain ⟨g, off, rfl, c1⟩ := hc k hlt
      have hMk : Ms[k]? = some Ms[k] := List.getElem?_eq_getElem hlt
      have h31 := fun W => count31_any Ms[k] W
      rw [HP.out.cnt _ (List.getElem_mem hlt)] at h31
      have h32 := fun W => and_any Ms[k] U W
      rw [HP.out.and_ k _ _ hMk hU.out] at h32
      have h33 := fun W => minus_any Ms[k] F W
      rw [HP.out.mF _ (List.getElem_mem hlt)] at h33
      have h34 := fun W => minus_any Ms[k] M W
      rw [HP.out.mA _ (List.getElem_mem hlt)] at h34
      have h30 := fun W => or_any U Ms[k] W
      have hU2 := HP.out.or_ k _ _ hMk hU.out
      generalize orM U Ms[k] = U2 at *
      generalize Ms[k] = x at *
      have hq := fun W => eq_masks (M := 0) (M' := 0) (by decide) (by decide) 33 Try.underlying33 W
      rw [decide_eq_true rfl] at hq
      simp only [valM, zero_cells] at h32 h33 h34 hq
      simp only [valM, Ytcefadbnmpjeiaa.cellsM] at h31 h32 h33 h34 h30
      have H31 := Lib.hid h31
      have H32 := Lib.hid h32
      have H33 := Lib.hid h33
      have H34 := Lib.hid h34
      have H30 := Lib.hid h30
      have HU2 := Lib.hid hU2
      clear h31 h32 h33 h34 h30 hU2 hMk hU
      obtain ⟨a0, a1, a2, a3⟩ := MsV.at4 c1
      obtain ⟨u0, u1, u2, u3⟩ := hA.cellsM
      have l0 := Later.cell a0
      have l1 := Later.cell a1
      have l2 := Later.cell a2
      have l3 := Later.cell a3
      have l4 := Later.cell u0
      have l5 := Later.cell u1
      have l6 := Later.cell u2
      have l7 := Later.cell u3
      have l8 := Later.cell (hBr.cell 0)
      have l9 := Later.cell (hBr.cell 1)
      have m0 := Later.cell (hXr.cell 0)
      have m1 := Later.cell (hXr.cell 1)
      have m2 := Later.cell (hXr.cell 2)
      have m3 := Later.cell (hXr.cell 3)
      have m4 := Later.cell (hWr.cell 5)
      have HA := Lib.hid hA
      clear c1 hc a0 a1 a2 a3 u0 u1 u2 u3 hA hBr hXr hWr
      go_wp2_with fail
      refine wp_region_later wr (by kernel_rfl) (by kernel_rfl) (Fr.refl _ _) ?_
      repeat (go_big_quiet_step (first
        | (go_at_call 31; exact later_call (H31.out _))
        | (go_at_call 32; exact later_call (H32.out _))
        | (go_at_call 33; exact later_call (H33.out _))
        | (go_at_call 33; exact later_call (H34.out _))
        | (go_at_call 16; exact later_call (H16.out _))
        | (go_at_call 14; exact later_call (H14.out _))))
      refine wpQuiet_nil ?_
      rintro _ ⟨dr, rfl⟩
      have n0 := Later.cell (l0 dr)
      have n1 := Later.cell (l1 dr)
      have n2 := Later.cell (l2 dr)
      have n3 := Later.cell (l3 dr)
      have n4 := Later.cell (l4 dr)
      have n5 := Later.cell (l5 dr)
      have n6 := Later.cell (l6 dr)
      have n7 := Later.cell (l7 dr)
      clear l0 l1 l2 l3 l4 l5 l6 l7 l8 l9 m0 m1 m2 m3 m4
      go_wp2_with fail
      refine wp_region_later_tail dr.val 6 (by kernel_rfl) (by kernel_rfl) (Fr.refl _ _) ?_
      simp only [List.take_succ_cons, List.take_zero, List.drop_succ_cons, List.drop_zero]
      repeat (go_big_quiet_step (first
        | (go_at_call 30; exact later_call (H30.out _))))
      refine wpQuiet_nil ?_
      rintro _ ⟨ds, rfl⟩
      have hA2 := (HA.out.fr dr.fr (fun h => h)).fr ds.fr (fun h => h)
      obtain ⟨f0, f1, f2, f3⟩ := hA2.frozenM
      obtain ⟨y0, y1, y2, y3⟩ := hA2.cellsM
      have HA3 := Lib.hid (Blk.setM rfl hA2 U2)
      have HF6 := Lib.hid ((hfr.trans dr.fr (fun _ _ h => h.elim)).trans ds.fr (fun _ _ h => h.elim))
      clear n0 n1 n2 n3 n4 n5 n6 n7 hA2 hfr
      go_wp2_with fail
      go_roundw
      case rel => exact ⟨k + 1, U2, by omega, by go_num, HU2.out, HA3.out, HF6.out.setM (Or.inl rfl) _ _ _ _⟩
      case measure => simp [intOf]; omega
    · obtain rfl : k = Ms.length := by omega
      have hla := HP.out.last U hU.out
      have h31 := fun W => count31_any U W
      rw [hla, hl] at h31
      rw [hl] at *
      simp only [valM, Ytcefadbnmpjeiaa.cellsM] at h31
      have H31 := Lib.hid h31
      obtain ⟨u0, u1, u2, u3⟩ := hA.cellsM
      have l4 := Later.cell u0
      have l5 := Later.cell u1
      have l6 := Later.cell u2
      have l7 := Later.cell u3
      have m4 := Later.cell (hWr.cell 5)
      have m5 := Later.cell (hWr.cell 4)
      have hRPb : R * P ≤ 8192 := Nat.mul_le_mul (show R ≤ 32 by omega) (show P ≤ 256 by omega)
      have hRP : (R : Int) * (P : Int) = ((R * P : Nat) : Int) := by simp
      have hRP0 : 0 ≤ (R : Int) * (P : Int) ∧ (R : Int) * (P : Int) ≤ 8192 := by omega
      clear u0 u1 u2 u3 h31 hla hRP hA hWr hXr hBr hIr
      go_wp2_with fail
      refine wp_region_later wr (by kernel_rfl) (by kernel_rfl) (Fr.refl _ _) ?_
      repeat (go_big_quiet_step (first
        | (go_at_call 31; exact later_call (H31.out _))
        | (go_at_call 23; exact later_call (live_any _))))
      refine wpQuiet_nil ?_
      rintro _ ⟨dz, rfl⟩
      go_wp2
      go_ret
      exact ⟨rfl, HF4.out.trans (hfr.trans dz.fr (fun _ _ h => h.elim)) (fun i hi e => by omega)⟩


end Go.Proofs.Ytcefadbnmpjeiaa
