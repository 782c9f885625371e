/-
  A pool that is none has nothing: of any number and any mask.
-/
import Derived.Test.YtcefadbnmpjeiaaPlB
import Derived.Test.YtcefadbnmpjeiaaArgW
import Derived.Test.YtcefadbnmpjeiaaLaw
namespace Go.Proofs.Ytcefadbnmpjeiaa
open Go.ChangeShapes Go.WideShapes Go.ChangeAt Go.RowKit Go.Deep Go.Maps Go.Shelf

set_option maxRecDepth 20000 in
set_option maxHeartbeats 2000000 in
theorem poolNil10_any (n : Int) (M : Nat) (w : World) : Calls Try.prog 10 #[.int .i64 n, valM M] w fun e w' => e = .returned (.bool true) ∧ Fr (fun _ => False) w w' := by
  have h46 := fun W => reserve46_nil n ⟨0, 1, 1, 0⟩ W
  rw [pl_w] at h46
  have h43 := fun W => of43_nil n W
  have h39 := fun W => free39_nil W
  have h47 := fun W => take47_nil n M W
  have h48 := fun W => commit48_nil n W
  have h45 := fun W => release45_nil n W
  have h41 := fun W => owners41_nil W
  have q0 : ∀ W, (Op.equalIn 10000 33 (.agg #[.int .u64 0, .int .u64 0, .int .u64 0, .int .u64 0]) (.agg #[.int .u64 0, .int .u64 0, .int .u64 0, .int .u64 0])).run Try.prog W = .ok true W := fun W => eq_words _ _ _ _ _ _ _ _ 33 Try.underlying33 W
  have HX := Lib.hid (Blk.new w 40 #[.int .u64 (wordM M 0 : Nat), .int .u64 (wordM M 1 : Nat), .int .u64 (wordM M 2 : Nat), .int .u64 (wordM M 3 : Nat)])
  have HF := Lib.hid ((Fr.refl (fun _ => False) w).alloc (.cells #[.int .u64 (wordM M 0 : Nat), .int .u64 (wordM M 1 : Nat), .int .u64 (wordM M 2 : Nat), .int .u64 (wordM M 3 : Nat)] 40))
  rw [valM, zero_cells] at h43 h39
  simp only [valM, Ytcefadbnmpjeiaa.cellsM] at *
  have H46 := Lib.hid h46
  have H43 := Lib.hid h43
  have H39 := Lib.hid h39
  have H47 := Lib.hid h47
  have H48 := Lib.hid h48
  have H45 := Lib.hid h45
  have H41 := Lib.hid h41
  have Q0 := Lib.hid q0
  clear h46 h43 h39 h47 h48 h45 h41 q0
  go_enter Try.func10, Try.ntmps10
  go_wp2_with fail
  refine (H46.out _).mono ?_
  rintro e w1 ⟨rfl, hf1⟩
  go_wp2_with fail
  refine (H43.out _).mono ?_
  rintro e w2 ⟨rfl, hf2⟩
  have G2 := Lib.hid (((HF.out.then hf1).then hf2).alloc (.cells #[.int .u64 0, .int .u64 0, .int .u64 0, .int .u64 0] 33))
  have HA2 := Lib.hid (Blk.new w2 33 #[.int .u64 0, .int .u64 0, .int .u64 0, .int .u64 0])
  have HX2 := Lib.hid (((HX.out.fr hf1 (fun h => h)).fr hf2 (fun h => h)).alloc (.cells #[.int .u64 0, .int .u64 0, .int .u64 0, .int .u64 0] 33))
  clear hf1 hf2
  go_wp2_with fail
  refine (H39.out _).mono ?_
  rintro e w3 ⟨rfl, hf3⟩
  have q := Q0.out
  have hX3 := HX2.out.fr hf3 (fun h => h)
  have y := fun i => hX3.cell i
  clear hX3
  go_wp2_with fail
  refine (H47.out _).mono ?_
  rintro e w4 ⟨rfl, hf4⟩
  clear y
  go_wp2_with fail
  refine (H48.out _).mono ?_
  rintro e w5 ⟨rfl, hf5⟩
  go_wp2_with fail
  refine (H45.out _).mono ?_
  rintro e w6 ⟨rfl, hf6⟩
  have G6 := Lib.hid ((((G2.out.then hf3).then hf4).then hf5).then hf6)
  have hA6 := (((HA2.out.fr hf3 (fun h => h)).fr hf4 (fun h => h)).fr hf5 (fun h => h)).fr hf6 (fun h => h)
  have y := fun i => hA6.cell i
  clear hA6
  go_wp2_with fail
  refine (H41.out _).mono ?_
  rintro e w7 ⟨rfl, hf7⟩
  clear y
  go_wp2_with fail
  refine (live34_any _).mono ?_
  rintro e w8 ⟨rfl, hf8⟩
  go_wp2_with fail
  go_ret
  exact ⟨rfl, (G6.out.then hf7).then hf8⟩

set_option maxRecDepth 100000 in
theorem poolNil_lifted (os : Os) (started : os.Started) (H : Type) (enc : TypeId × Value → H) :
    ReturnsInHanded {} Try.checked os 10 .any (Rows.poolNilSpec.pre6 enc Try.prog Try.f10 Rows.poolNilRow.domain false) (Rows.poolNilSpec.post enc Try.prog Try.f10 false true false false) := by
  refine returnsInHanded_of_change (C := Try.checked) own started (by kernel_rfl) Try.func10
    (ChangeSpec.witness6 (enc := enc) (C := Try.checked) false ⟨#[], #[.int .i64 0, .agg #[.int .u64 0, .int .u64 0, .int .u64 0, .int .u64 0]], []⟩ 8 (by kernel_rfl) (by kernel_rfl) (by kernel_rfl) (by kernel_rfl)) ?_
  intro W base args ds gs before hval0 hW _ _
  have hval : ∀ (j : Nat) t v, Try.f10.params[j]? = some t → args[j]? = some v → Value.okWide Try.prog W .any base t v := hval0
  have hW' := hW
  obtain ⟨p, q, hA0, hV, rfl, hfz, hnd⟩ := hW
  have hA : DataW.TrodAll enc Try.prog W 0 (fun _ => true) true Try.f10.params.toList args.toList ds p := hA0
  rw [Try.params10] at hA hval
  obtain ⟨v0, v1, d0, d1, p0, p1, rfl, rfl, rfl, h0, h1⟩ := trodAll_two hA
  obtain ⟨n, rfl, rfl, rfl, _⟩ := open_int Try.underlying3 (hval 0 3 v0 rfl rfl) h0
  obtain ⟨M, _, rfl⟩ := bits_arg (hval 1 40 v1 rfl rfl) h1
  refine (poolNil10_any n M W).mono fun e W' ⟨he, hb⟩ => ⟨_, he, ?_⟩
  exact law_post laidOut (by kernel_rfl) rfl Try.underlying4 rfl (fun ds h => by match ds, h with | [_, _], _ => rfl) hW' hb.below0

theorem poolNil_holds : Rows.PoolNilSaid :=
  OpenClaim.holds_of_wide 10 Try.f10 rfl rfl rfl rfl rfl rfl rfl ⟨rfl, rfl, rfl, rfl, rfl⟩ rfl rfl rfl rfl rfl (by kernel_rfl) Try.func10 (by kernel_rfl)
    (of_decide_eq_true (by kernel_rfl)) (by unfold Func.isWrapper; first | (rw [if_pos (by decide +kernel)]; kernel_rfl) | (rw [if_neg (by decide +kernel)]; exact ⟨rfl, rfl⟩))
    (fun os started H enc _ => poolNil_lifted os started H enc)

#print axioms poolNil_holds

end Go.Proofs.Ytcefadbnmpjeiaa
