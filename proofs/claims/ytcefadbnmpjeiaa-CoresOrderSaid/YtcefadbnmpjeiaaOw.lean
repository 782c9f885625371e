/-
  CoresOrder, walked (made by gen_ord5.py).
-/
import Derived.Test.YtcefadbnmpjeiaaOp
namespace Go.Proofs.Ytcefadbnmpjeiaa
open Go.RowKit Go.Maps


set_option maxRecDepth 20000 in
set_option maxHeartbeats 4000000 in
theorem ord5_block (s p : Int) (L : List Int) (M : Nat) (hM : M < 2 ^ 256) (hl : L.length ≤ 256) (hl1 : 1 ≤ L.length) (hnx : ∀ j (h : j + 1 < L.length), L[j + 1] = L[j] + 1) (hrg : ∀ c ∈ L, 0 ≤ c ∧ c < 256)
    (H14 : Hid (∀ W, Calls Try.prog 14 #[.agg #[.int .i64 s, .int .i64 p]] W fun e w' => e = .returned (.agg #[.int .i64 s, .int .i64 p]) ∧ Fr (fun _ => False) W w'))
    (H13 : Hid (∀ W, Calls Try.prog 13 #[.agg #[.int .i64 s, .int .i64 p], .int .i64 0] W fun e w' => ∃ v, e = .returned (.tuple #[v, .int .i64 0]) ∧ w'.ownsRow W.heap.size 3 1 v L.length (L.map encI) ∧ Fr (fun _ => False) W w'))
    (HOF : Hid (∀ W v, IntsV W v L → Calls Try.prog 29 #[v] W fun e w' => e = .returned (.tuple #[.agg #[.int .u64 (wordM M 0 : Nat), .int .u64 (wordM M 1 : Nat), .int .u64 (wordM M 2 : Nat), .int .u64 (wordM M 3 : Nat)], .int .i64 0]) ∧ Fr (fun _ => False) W w'))
    (H16 : Hid (∀ W, Calls Try.prog 16 #[.agg #[.int .i64 s, .int .i64 p]] W fun e w' => e = .returned (.agg #[.int .u64 (wordM M 0 : Nat), .int .u64 (wordM M 1 : Nat), .int .u64 (wordM M 2 : Nat), .int .u64 (wordM M 3 : Nat)]) ∧ Fr (fun _ => False) W w'))
    (w : World) : Calls Try.prog 5 #[.agg #[.int .i64 s, .int .i64 p], .int .i64 0] w fun e w' => e = .returned (.bool true) ∧ Fr (fun _ => False) w w' := by
  have hq := fun W => eq_masks hM hM 33 Try.underlying33 W
  rw [decide_eq_true rfl] at hq
  simp only [valM, Ytcefadbnmpjeiaa.cellsM] at hq
  have HB := Lib.hid (Blk.new w 23 #[.int .i64 s, .int .i64 p])
  go_enter Try.func5, Try.ntmps5
  go_wp2_with fail
  refine (H14.out _).mono ?_
  rintro e w1 ⟨rfl, hf1⟩
  go_wp2_with fail
  refine (H13.out _).mono ?_
  rintro e w2 ⟨v2, rfl, hr2, hf2⟩
  have hi2 := IntsV.of_row hr2
  obtain ⟨vA, vcap, rfl⟩ := row_shape hr2
  go_wp2_with fail
  refine (HOF.out _ _ hi2).mono ?_
  rintro e w3 ⟨rfl, hf3⟩
  have hF3 : Fr (fun _ => False) w w3 := (((Fr.refl _ w).alloc _).then hf1).then (hf2.then hf3)
  have hb3 := (((HB.out.fr hf1 (fun h => h)).fr hf2 (fun h => h)).fr hf3 (fun h => h)).alloc (.cells #[.int .u64 (wordM M 0 : Nat), .int .u64 (wordM M 1 : Nat), .int .u64 (wordM M 2 : Nat), .int .u64 (wordM M 3 : Nat)] 33)
  have hm3 := Blk.new w3 33 (Ytcefadbnmpjeiaa.cellsM M)
  have hr3 := (ownsRow_fr hr2 hf3 (fun _ _ h => h)).alloc (.cells #[.int .u64 (wordM M 0 : Nat), .int .u64 (wordM M 1 : Nat), .int .u64 (wordM M 2 : Nat), .int .u64 (wordM M 3 : Nat)] 33)
  have HB3 := Lib.hid hb3
  have HM3 := Lib.hid hm3
  have HR3 := Lib.hid hr3
  have HF3 := Lib.hid hF3
  clear hb3 hm3 hr3 hF3 hi2 hr2 hf1 hf2 hf3
  go_wp2_with fail
  go_loopw [9] (fun i wr => ∃ j : Nat, i = .int .i64 ((j : Int) + 1) ∧ j < L.length ∧ Fr (fun _ => False) (w3.alloc (.cells #[.int .u64 (wordM M 0 : Nat), .int .u64 (wordM M 1 : Nat), .int .u64 (wordM M 2 : Nat), .int .u64 (wordM M 3 : Nat)] 33)) wr) (fun i _ => L.length - (intOf i).toNat)
  case atStart => exact ⟨0, rfl, by omega, Fr.refl _ _⟩
  case round =>
    obtain ⟨j, rfl, hjl, hfr⟩ := hrel
    by_cases hlt : j + 1 < L.length
    · have b1 : decide ((j : Int) + 1 < (L.length : Int)) = true := decide_eq_true (by omega)
      obtain ⟨g, cap, hv, c1⟩ := row_elem1 encI (ownsRow_fr HR3.out hfr (fun _ _ h => h)) hlt
      obtain ⟨g', cap', hv', c0⟩ := row_elem1 encI (ownsRow_fr HR3.out hfr (fun _ _ h => h)) hjl
      cases hv
      cases hv'
      have hn := hnx j hlt
      have hg := hrg _ (List.getElem_mem hjl)
      rw [hn] at c1
      generalize L[j] = x at *
      simp only [encI] at c0 c1
      have hb4 := HB3.out.fr hfr (fun h => h)
      have l0 := Later.cell c0
      have l1 := Later.cell c1
      clear c0 c1 hn hb4
      go_wp2_with fail
      refine wp_region_later wr (by kernel_rfl) (by kernel_rfl) (Fr.refl _ _) ?_
      repeat (go_big_quiet_step (fail))
      refine wpQuiet_nil ?_
      rintro _ ⟨dd, rfl⟩
      have k0 := l0 dd
      have k1 := l1 dd
      have n0 := fun (e : Later dd.val) => fr_cell e.fr k0 (fun h => h)
      have n1 := fun (e : Later dd.val) => fr_cell e.fr k1 (fun h => h)
      clear l0 l1 k0 k1
      go_wp2_with fail
      refine wp_region_later dd.val (by kernel_rfl) (by kernel_rfl) (Fr.refl _ _) ?_
      repeat (go_big_quiet_step (fail))
      refine wpQuiet_nil ?_
      rintro _ ⟨ee, rfl⟩
      go_wp2
      go_roundw
      case rel => exact ⟨j + 1, by go_num, hlt, (hfr.then dd.fr).then ee.fr⟩
      case measure => simp [intOf]; omega
    · have b1 : decide ((j : Int) + 1 < (L.length : Int)) = false := decide_eq_false (by omega)
      have hb4 := HB3.out.fr hfr (fun h => h)
      obtain ⟨m0, m1, m2, m3⟩ := (HM3.out.fr hfr (fun h => h)).cellsM
      have l0 := Later.cell (hb4.cell 0)
      have l1 := Later.cell (hb4.cell 1)
      have l2 := Later.cell m0
      have l3 := Later.cell m1
      have l4 := Later.cell m2
      have l5 := Later.cell m3
      clear m0 m1 m2 m3 hb4
      go_wp2_with fail
      refine wp_region_later wr (by kernel_rfl) (by kernel_rfl) (Fr.refl _ _) ?_
      repeat (go_big_quiet_step (first
        | (go_at_call 14; exact later_call (H14.out _))
        | (go_at_call 16; exact later_call (H16.out _))
        | (go_at_call 23; exact later_call (live_any _))))
      refine wpQuiet_nil ?_
      rintro _ ⟨dd, rfl⟩
      go_wp2
      go_ret
      exact ⟨rfl, ((HF3.out.alloc _).then hfr).then dd.fr⟩


set_option maxRecDepth 20000 in
set_option maxHeartbeats 4000000 in
theorem ord5_one (s p : Int) (L : List Int) (M : Nat) (hM : M < 2 ^ 256) (hl : L.length ≤ 256) (hl1 : 1 ≤ L.length) (hs1 : s ≤ 1)
    (H14 : Hid (∀ W, Calls Try.prog 14 #[.agg #[.int .i64 s, .int .i64 p]] W fun e w' => e = .returned (.agg #[.int .i64 s, .int .i64 p]) ∧ Fr (fun _ => False) W w'))
    (H13 : Hid (∀ W, Calls Try.prog 13 #[.agg #[.int .i64 s, .int .i64 p], .int .i64 1] W fun e w' => ∃ v, e = .returned (.tuple #[v, .int .i64 0]) ∧ w'.ownsRow W.heap.size 3 1 v L.length (L.map encI) ∧ Fr (fun _ => False) W w'))
    (HOF : Hid (∀ W v, IntsV W v L → Calls Try.prog 29 #[v] W fun e w' => e = .returned (.tuple #[.agg #[.int .u64 (wordM M 0 : Nat), .int .u64 (wordM M 1 : Nat), .int .u64 (wordM M 2 : Nat), .int .u64 (wordM M 3 : Nat)], .int .i64 0]) ∧ Fr (fun _ => False) W w'))
    (H16 : Hid (∀ W, Calls Try.prog 16 #[.agg #[.int .i64 s, .int .i64 p]] W fun e w' => e = .returned (.agg #[.int .u64 (wordM M 0 : Nat), .int .u64 (wordM M 1 : Nat), .int .u64 (wordM M 2 : Nat), .int .u64 (wordM M 3 : Nat)]) ∧ Fr (fun _ => False) W w'))
    (w : World) : Calls Try.prog 5 #[.agg #[.int .i64 s, .int .i64 p], .int .i64 1] w fun e w' => e = .returned (.bool true) ∧ Fr (fun _ => False) w w' := by
  have hq := fun W => eq_masks hM hM 33 Try.underlying33 W
  rw [decide_eq_true rfl] at hq
  simp only [valM, Ytcefadbnmpjeiaa.cellsM] at hq
  have HB := Lib.hid (Blk.new w 23 #[.int .i64 s, .int .i64 p])
  go_enter Try.func5, Try.ntmps5
  go_wp2_with fail
  refine (H14.out _).mono ?_
  rintro e w1 ⟨rfl, hf1⟩
  go_wp2_with fail
  refine (H13.out _).mono ?_
  rintro e w2 ⟨v2, rfl, hr2, hf2⟩
  have hi2 := IntsV.of_row hr2
  obtain ⟨vA, vcap, rfl⟩ := row_shape hr2
  go_wp2_with fail
  refine (HOF.out _ _ hi2).mono ?_
  rintro e w3 ⟨rfl, hf3⟩
  have hF3 : Fr (fun _ => False) w w3 := (((Fr.refl _ w).alloc _).then hf1).then (hf2.then hf3)
  have hb3 := (((HB.out.fr hf1 (fun h => h)).fr hf2 (fun h => h)).fr hf3 (fun h => h)).alloc (.cells #[.int .u64 (wordM M 0 : Nat), .int .u64 (wordM M 1 : Nat), .int .u64 (wordM M 2 : Nat), .int .u64 (wordM M 3 : Nat)] 33)
  have hm3 := Blk.new w3 33 (Ytcefadbnmpjeiaa.cellsM M)
  have hr3 := (ownsRow_fr hr2 hf3 (fun _ _ h => h)).alloc (.cells #[.int .u64 (wordM M 0 : Nat), .int .u64 (wordM M 1 : Nat), .int .u64 (wordM M 2 : Nat), .int .u64 (wordM M 3 : Nat)] 33)
  have HB3 := Lib.hid hb3
  have HM3 := Lib.hid hm3
  have HR3 := Lib.hid hr3
  have HF3 := Lib.hid hF3
  clear hb3 hm3 hr3 hF3 hi2 hr2 hf1 hf2 hf3
  go_wp2_with fail
  go_loopw [9] (fun i wr => ∃ j : Nat, i = .int .i64 ((j : Int) + 1) ∧ j < L.length ∧ Fr (fun _ => False) (w3.alloc (.cells #[.int .u64 (wordM M 0 : Nat), .int .u64 (wordM M 1 : Nat), .int .u64 (wordM M 2 : Nat), .int .u64 (wordM M 3 : Nat)] 33)) wr) (fun i _ => L.length - (intOf i).toNat)
  case atStart => exact ⟨0, rfl, by omega, Fr.refl _ _⟩
  case round =>
    obtain ⟨j, rfl, hjl, hfr⟩ := hrel
    by_cases hlt : j + 1 < L.length
    · have b1 : decide ((j : Int) + 1 < (L.length : Int)) = true := decide_eq_true (by omega)
      obtain ⟨g, cap, hv, c1⟩ := row_elem1 encI (ownsRow_fr HR3.out hfr (fun _ _ h => h)) hlt
      obtain ⟨g', cap', hv', c0⟩ := row_elem1 encI (ownsRow_fr HR3.out hfr (fun _ _ h => h)) hjl
      cases hv
      cases hv'
      have hb4 := HB3.out.fr hfr (fun h => h)
      have l0 := Later.cell (hb4.cell 0)
      have bs : decide (1 < s) = false := decide_eq_false (by omega)
      clear c0 c1 hb4
      go_wp2_with fail
      refine wp_region_later wr (by kernel_rfl) (by kernel_rfl) (Fr.refl _ _) ?_
      repeat (go_big_quiet_step (fail))
      refine wpQuiet_nil ?_
      rintro _ ⟨dd, rfl⟩
      clear l0
      go_wp2_with fail
      refine wp_region_later dd.val (by kernel_rfl) (by kernel_rfl) (Fr.refl _ _) ?_
      repeat (go_big_quiet_step (fail))
      refine wpQuiet_nil ?_
      rintro _ ⟨ee, rfl⟩
      go_wp2
      go_roundw
      case rel => exact ⟨j + 1, by go_num, hlt, (hfr.then dd.fr).then ee.fr⟩
      case measure => simp [intOf]; omega
    · have b1 : decide ((j : Int) + 1 < (L.length : Int)) = false := decide_eq_false (by omega)
      have hb4 := HB3.out.fr hfr (fun h => h)
      obtain ⟨m0, m1, m2, m3⟩ := (HM3.out.fr hfr (fun h => h)).cellsM
      have l0 := Later.cell (hb4.cell 0)
      have l1 := Later.cell (hb4.cell 1)
      have l2 := Later.cell m0
      have l3 := Later.cell m1
      have l4 := Later.cell m2
      have l5 := Later.cell m3
      clear m0 m1 m2 m3 hb4
      go_wp2_with fail
      refine wp_region_later wr (by kernel_rfl) (by kernel_rfl) (Fr.refl _ _) ?_
      repeat (go_big_quiet_step (first
        | (go_at_call 14; exact later_call (H14.out _))
        | (go_at_call 16; exact later_call (H16.out _))
        | (go_at_call 23; exact later_call (live_any _))))
      refine wpQuiet_nil ?_
      rintro _ ⟨dd, rfl⟩
      go_wp2
      go_ret
      exact ⟨rfl, ((HF3.out.alloc _).then hfr).then dd.fr⟩


set_option maxRecDepth 20000 in
set_option maxHeartbeats 4000000 in
theorem ord5_many (s p : Int) (L : List Int) (M : Nat) (hM : M < 2 ^ 256) (hl : L.length ≤ 256) (hl1 : 1 ≤ L.length) (hs1 : 1 < s) (sk : Int → Int) (hsk : ∀ j (h : j + 1 < L.length), sk L[j + 1] ≠ sk L[j]) (H20 : Hid (∀ c W, Calls Try.prog 20 #[.agg #[.int .i64 s, .int .i64 p], .int .i64 c] W fun e w' => e = .returned (.int .i64 (sk c)) ∧ Fr (fun _ => False) W w'))
    (H14 : Hid (∀ W, Calls Try.prog 14 #[.agg #[.int .i64 s, .int .i64 p]] W fun e w' => e = .returned (.agg #[.int .i64 s, .int .i64 p]) ∧ Fr (fun _ => False) W w'))
    (H13 : Hid (∀ W, Calls Try.prog 13 #[.agg #[.int .i64 s, .int .i64 p], .int .i64 1] W fun e w' => ∃ v, e = .returned (.tuple #[v, .int .i64 0]) ∧ w'.ownsRow W.heap.size 3 1 v L.length (L.map encI) ∧ Fr (fun _ => False) W w'))
    (HOF : Hid (∀ W v, IntsV W v L → Calls Try.prog 29 #[v] W fun e w' => e = .returned (.tuple #[.agg #[.int .u64 (wordM M 0 : Nat), .int .u64 (wordM M 1 : Nat), .int .u64 (wordM M 2 : Nat), .int .u64 (wordM M 3 : Nat)], .int .i64 0]) ∧ Fr (fun _ => False) W w'))
    (H16 : Hid (∀ W, Calls Try.prog 16 #[.agg #[.int .i64 s, .int .i64 p]] W fun e w' => e = .returned (.agg #[.int .u64 (wordM M 0 : Nat), .int .u64 (wordM M 1 : Nat), .int .u64 (wordM M 2 : Nat), .int .u64 (wordM M 3 : Nat)]) ∧ Fr (fun _ => False) W w'))
    (w : World) : Calls Try.prog 5 #[.agg #[.int .i64 s, .int .i64 p], .int .i64 1] w fun e w' => e = .returned (.bool true) ∧ Fr (fun _ => False) w w' := by
  have hq := fun W => eq_masks hM hM 33 Try.underlying33 W
  rw [decide_eq_true rfl] at hq
  simp only [valM, Ytcefadbnmpjeiaa.cellsM] at hq
  have HB := Lib.hid (Blk.new w 23 #[.int .i64 s, .int .i64 p])
  go_enter Try.func5, Try.ntmps5
  go_wp2_with fail
  refine (H14.out _).mono ?_
  rintro e w1 ⟨rfl, hf1⟩
  go_wp2_with fail
  refine (H13.out _).mono ?_
  rintro e w2 ⟨v2, rfl, hr2, hf2⟩
  have hi2 := IntsV.of_row hr2
  obtain ⟨vA, vcap, rfl⟩ := row_shape hr2
  go_wp2_with fail
  refine (HOF.out _ _ hi2).mono ?_
  rintro e w3 ⟨rfl, hf3⟩
  have hF3 : Fr (fun _ => False) w w3 := (((Fr.refl _ w).alloc _).then hf1).then (hf2.then hf3)
  have hb3 := (((HB.out.fr hf1 (fun h => h)).fr hf2 (fun h => h)).fr hf3 (fun h => h)).alloc (.cells #[.int .u64 (wordM M 0 : Nat), .int .u64 (wordM M 1 : Nat), .int .u64 (wordM M 2 : Nat), .int .u64 (wordM M 3 : Nat)] 33)
  have hm3 := Blk.new w3 33 (Ytcefadbnmpjeiaa.cellsM M)
  have hr3 := (ownsRow_fr hr2 hf3 (fun _ _ h => h)).alloc (.cells #[.int .u64 (wordM M 0 : Nat), .int .u64 (wordM M 1 : Nat), .int .u64 (wordM M 2 : Nat), .int .u64 (wordM M 3 : Nat)] 33)
  have HB3 := Lib.hid hb3
  have HM3 := Lib.hid hm3
  have HR3 := Lib.hid hr3
  have HF3 := Lib.hid hF3
  clear hb3 hm3 hr3 hF3 hi2 hr2 hf1 hf2 hf3
  go_wp2_with fail
  go_loopw [9] (fun i wr => ∃ j : Nat, i = .int .i64 ((j : Int) + 1) ∧ j < L.length ∧ Fr (fun _ => False) (w3.alloc (.cells #[.int .u64 (wordM M 0 : Nat), .int .u64 (wordM M 1 : Nat), .int .u64 (wordM M 2 : Nat), .int .u64 (wordM M 3 : Nat)] 33)) wr) (fun i _ => L.length - (intOf i).toNat)
  case atStart => exact ⟨0, rfl, by omega, Fr.refl _ _⟩
  case round =>
    obtain ⟨j, rfl, hjl, hfr⟩ := hrel
    by_cases hlt : j + 1 < L.length
    · have b1 : decide ((j : Int) + 1 < (L.length : Int)) = true := decide_eq_true (by omega)
      obtain ⟨g, cap, hv, c1⟩ := row_elem1 encI (ownsRow_fr HR3.out hfr (fun _ _ h => h)) hlt
      obtain ⟨g', cap', hv', c0⟩ := row_elem1 encI (ownsRow_fr HR3.out hfr (fun _ _ h => h)) hjl
      cases hv
      cases hv'
      have hn := hsk j hlt
      have h201 := fun W => H20.out L[j + 1] W
      have h200 := fun W => H20.out L[j] W
      generalize sk L[j + 1] = k1 at *
      generalize sk L[j] = k0 at *
      generalize L[j + 1] = x1 at *
      generalize L[j] = x0 at *
      have bn : (k1 == k0) = false := by simpa using hn
      simp only [encI] at c0 c1
      have hb4 := HB3.out.fr hfr (fun h => h)
      have l0 := Later.cell c0
      have l1 := Later.cell c1
      have l2 := Later.cell (hb4.cell 0)
      have l3 := Later.cell (hb4.cell 1)
      have bs : decide (1 < s) = true := decide_eq_true (by omega)
      have H201 := Lib.hid h201
      have H200 := Lib.hid h200
      clear c0 c1 hn hb4 h201 h200
      go_wp2_with fail
      refine wp_region_later wr (by kernel_rfl) (by kernel_rfl) (Fr.refl _ _) ?_
      repeat (go_big_quiet_step ((go_at_call 14; exact later_call (H14.out _))))
      go_big_quiet_step ((go_at_call 20; exact later_call (H201.out _)))
      clear H201
      repeat (go_big_quiet_step ((go_at_call 14; exact later_call (H14.out _))))
      go_big_quiet_step ((go_at_call 20; exact later_call (H200.out _)))
      clear H200
      repeat (go_big_quiet_step (fail))
      refine wpQuiet_nil ?_
      rintro _ ⟨dd, rfl⟩
      clear l0 l1 l2 l3
      go_wp2_with fail
      refine wp_region_later dd.val (by kernel_rfl) (by kernel_rfl) (Fr.refl _ _) ?_
      repeat (go_big_quiet_step (fail))
      refine wpQuiet_nil ?_
      rintro _ ⟨ee, rfl⟩
      go_wp2
      go_roundw
      case rel => exact ⟨j + 1, by go_num, hlt, (hfr.then dd.fr).then ee.fr⟩
      case measure => simp [intOf]; omega
    · have b1 : decide ((j : Int) + 1 < (L.length : Int)) = false := decide_eq_false (by omega)
      have hb4 := HB3.out.fr hfr (fun h => h)
      obtain ⟨m0, m1, m2, m3⟩ := (HM3.out.fr hfr (fun h => h)).cellsM
      have l0 := Later.cell (hb4.cell 0)
      have l1 := Later.cell (hb4.cell 1)
      have l2 := Later.cell m0
      have l3 := Later.cell m1
      have l4 := Later.cell m2
      have l5 := Later.cell m3
      clear m0 m1 m2 m3 hb4
      go_wp2_with fail
      refine wp_region_later wr (by kernel_rfl) (by kernel_rfl) (Fr.refl _ _) ?_
      repeat (go_big_quiet_step (first
        | (go_at_call 14; exact later_call (H14.out _))
        | (go_at_call 16; exact later_call (H16.out _))
        | (go_at_call 23; exact later_call (live_any _))))
      refine wpQuiet_nil ?_
      rintro _ ⟨dd, rfl⟩
      go_wp2
      go_ret
      exact ⟨rfl, ((HF3.out.alloc _).then hfr).then dd.fr⟩

end Go.Proofs.Ytcefadbnmpjeiaa
