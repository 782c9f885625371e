/-
  The statements' own look at some answers of the document: it answers true.
-/
import Derived.Test.YtcefadbnmpjeiaaM
import Derived.Test.YtcefadbnmpjeiaaMaskEq
namespace Go.Proofs.Ytcefadbnmpjeiaa
open Go.RowKit Go.Maps

theorem lv_order : (⟨2, 2⟩ : LayD).order 1 = [0, 2, 1, 3] := by decide +kernel
theorem lv_orderE : orderE ⟨2, 2⟩ 1 = 0 := by decide +kernel
theorem lv_a1 : assignP ⟨2, 2⟩ ⟨13, 1, 2, 1⟩ = ([5], 0) := by decide +kernel
theorem lv_a2 : assignP ⟨2, 2⟩ ⟨13, 2, 2, 0⟩ = ([], 12) := by decide +kernel
theorem lv_w1 : (⟨13, 1, 2, 1⟩ : WishD).val = .agg #[.int .u64 13, .int .u64 0, .int .u64 0, .int .u64 0, .int .i64 1, .int .i64 2, .int .i64 1] := by simp [WishD.val, WishD.cells, wordM]
theorem lv_w2 : (⟨13, 2, 2, 0⟩ : WishD).val = .agg #[.int .u64 13, .int .u64 0, .int .u64 0, .int .u64 0, .int .i64 2, .int .i64 2, .int .i64 0] := by simp [WishD.val, WishD.cells, wordM]
theorem lv_c : (⟨8, 33⟩ : LayD).check = 1 := by decide +kernel
theorem lv_all : (⟨2, 2⟩ : LayD).all = 15 := by decide +kernel
theorem lv_v15 : valM 15 = .agg #[.int .u64 15, .int .u64 0, .int .u64 0, .int .u64 0] := by simp [valM, cellsM, wordM]
theorem lv_s3 : (⟨2, 2⟩ : LayD).socket 3 = 1 := by decide +kernel
theorem lv_s4 : (⟨2, 2⟩ : LayD).socket 4 = -1 := by decide +kernel
theorem lv_flat : flatM [5] = [.int .u64 5, .int .u64 0, .int .u64 0, .int .u64 0] := by simp [flatM, cellsM, wordM]; decide

theorem ints_lit (W : World) (L : List Int) (hL : L.length ≤ maxLen) : IntsV (W.alloc (.cells (L.map encI).toArray 3)) (.slice (some ⟨W.heap.size, 0, none⟩) L.length L.length) L := by
  refine IntsV.of_row (base := 0) (t := 3) ⟨by simp, Or.inr ⟨_, _, (L.map encI).toArray, rfl, Nat.zero_le _, heap_alloc_new W _, Nat.le_refl _, hL, by simp, ?_⟩⟩
  rw [List.take_of_length_le (by simp)]
  rfl

set_option maxRecDepth 20000 in
set_option maxHeartbeats 2000000 in
theorem live_any (w : World) : Calls Try.prog 23 #[] w fun e w' => e = .returned (.bool true) ∧ Fr (fun _ => False) w w' := by
  have h13 := fun W => order13_any ⟨2, 2⟩ 1 W
  rw [lv_order, lv_orderE] at h13
  have h24 := fun W => assign24_any ⟨2, 2⟩ ⟨13, 1, 2, 1⟩ W
  rw [lv_a1, lv_w1] at h24
  have h24' := fun W => assign24_any ⟨2, 2⟩ ⟨13, 2, 2, 0⟩ W
  rw [lv_a2, lv_w2] at h24'
  have h18 := fun W => check18_any ⟨8, 33⟩ W
  rw [lv_c] at h18
  have h16 := fun W => all16_any ⟨2, 2⟩ W
  rw [lv_all, lv_v15] at h16
  have h20 := fun W => socket20_any ⟨2, 2⟩ 3 W
  rw [lv_s3] at h20
  have h20' := fun W => socket20_any ⟨2, 2⟩ 4 W
  rw [lv_s4] at h20'
  simp only [LayD.val] at h13 h24 h24' h18 h16 h20 h20'
  have H13 := Lib.hid h13
  have H24 := Lib.hid h24
  have H24' := Lib.hid h24'
  have H18 := Lib.hid h18
  have H16 := Lib.hid h16
  have H20 := Lib.hid h20
  have H20' := Lib.hid h20'
  clear h13 h24 h24' h18 h16 h20 h20'
  have q5 : ∀ W, (Op.equalIn 10000 33 (.agg #[.int .u64 5, .int .u64 0, .int .u64 0, .int .u64 0]) (.agg #[.int .u64 5, .int .u64 0, .int .u64 0, .int .u64 0])).run Try.prog W = .ok true W := fun W => eq_words _ _ _ _ _ _ _ _ 33 Try.underlying33 W
  have q15 : ∀ W, (Op.equalIn 10000 33 (.agg #[.int .u64 15, .int .u64 0, .int .u64 0, .int .u64 0]) (.agg #[.int .u64 15, .int .u64 0, .int .u64 0, .int .u64 0])).run Try.prog W = .ok true W := fun W => eq_words _ _ _ _ _ _ _ _ 33 Try.underlying33 W
  have HL := Lib.hid (Blk.new w 28 #[.int .i64 2, .int .i64 2])
  go_enter Try.func23, Try.ntmps23
  go_wp2_with fail
  refine (H13.out _).mono ?_
  rintro e w1 ⟨v1, rfl, hr1, hf1⟩
  have hl1 := HL.out.fr hf1 (fun h => h)
  have hi1 := IntsV.of_row hr1
  have F1 := ((Fr.refl (fun _ => False) w).alloc (.cells #[.int .i64 2, .int .i64 2] 28)).then hf1
  clear hf1 hr1
  have e1 := fun i => hl1.cell i
  go_wp2_with fail
  refine (H24.out _).mono ?_
  rintro e w2 ⟨v2, rfl, hr2, hf2⟩
  have hl2 := hl1.fr hf2 (fun h => h)
  have hi2 := hi1.fr0 hf2
  have F2 := F1.then hf2
  obtain ⟨g2, cap2, rfl⟩ := row_succ (k := 0) hr2
  clear hf2 e1
  have e2 := fun i => hl2.cell i
  go_wp2_with fail
  refine (H24'.out _).mono ?_
  rintro e w3 ⟨v3, rfl, hr3, hf3⟩
  have hl3 := hl2.fr hf3 (fun h => h)
  have hi3 := (hi2.fr0 hf3).fr0 ((Fr.refl _ w3).alloc (.cells (List.map encI [0, 2, 1, 3]).toArray 3))
  have hr4 := ownsRow_fr hr2 hf3 (fun _ _ h => h)
  rw [lv_flat] at hr4
  have F3 := (F2.then hf3).alloc (.cells (List.map encI [0, 2, 1, 3]).toArray 3)
  have il := ints_lit w3 [0, 2, 1, 3] (by simp [maxLen])
  clear e2 hf3
  go_wp2_with fail
  refine (same_any _ v1 _ [0, 2, 1, 3] [0, 2, 1, 3] hi3 il (by simp [maxLen]) (by simp [maxLen]) true rfl).mono ?_
  rintro e w5 ⟨rfl, hf5⟩
  have hr5 := ownsRow_fr hr4 (((Fr.refl _ w3).alloc _).then hf5) (fun _ _ h => h)
  have c0 := row_cell hr5 rfl (i := 0) (u := .int .u64 5) rfl
  have c1 := row_cell hr5 rfl (i := 1) (u := .int .u64 0) rfl
  have c2 := row_cell hr5 rfl (i := 2) (u := .int .u64 0) rfl
  have c3 := row_cell hr5 rfl (i := 3) (u := .int .u64 0) rfl
  have hl5 := hl3.fr (((Fr.refl _ w3).alloc _).then hf5) (fun h => h)
  go_wp2_with fail
  refine (H18.out _).mono ?_
  rintro e w6 ⟨rfl, hf6⟩
  have hl6 := hl5.fr hf6 (fun h => h)
  have e6 := fun i => hl6.cell i
  clear c0 c1 c2 c3
  go_wp2_with fail
  refine (H16.out _).mono ?_
  rintro e w7 ⟨rfl, hf7⟩
  have hl7 := hl6.fr hf7 (fun h => h)
  clear e6
  have e7 := fun i => hl7.cell i
  go_wp2_with fail
  refine (H20.out _).mono ?_
  rintro e w8 ⟨rfl, hf8⟩
  have hl8 := hl7.fr hf8 (fun h => h)
  clear e7
  have e8 := fun i => hl8.cell i
  go_wp2_with fail
  refine (H20'.out _).mono ?_
  rintro e w9 ⟨rfl, hf9⟩
  go_wp2_with fail
  go_ret
  exact ⟨rfl, ((((F3.then hf5).then hf6).then hf7).then hf8).then hf9⟩

end Go.Proofs.Ytcefadbnmpjeiaa
