/-
  'roundhouselaw11.AcctNil': whatever the input, a book that is none has nothing: the law returns true and its arguments read as they did.
  For every input; no condition.
-/
import Derived.Test.YtomoomopodihhaaArgs
namespace Go.Proofs.Ytomoomopodihhaa
open Go.ChangeShapes Go.WideShapes Go.ChangeAt Go.RowKit

set_option maxHeartbeats 1000000 in
theorem nil7_any (x : UseD) (w : World) : Calls Try.prog 7 #[x.val] w fun e w' => e = .returned (.bool true) ∧ Fr (fun _ => False) w w' := by
  have h15 := fun W => own15_any x W
  have h23 := fun W => note23_nil x W
  obtain ⟨job, cores, frm, til⟩ := x
  simp only [UseD.val, UseD.cells] at *
  have H15 := Lib.hid h15
  have H23 := Lib.hid h23
  clear h15 h23
  have HB := Lib.hid (Blk.new w 23 #[.int .i64 job, .int .i64 cores, .int .i64 frm, .int .i64 til])
  go_enter Try.func7, Try.ntmps7
  go_wp2_with (first
    | (go_at_call 15; refine (H15.out _).mono ?_; rintro e w1 ⟨rfl, hf1⟩)
    | (go_at_call 23; refine (H23.out _).mono ?_; rintro e w2 ⟨rfl, hf2⟩; have e1 := ((HB.out.fr hf1 (fun h => h)).fr hf2 (fun h => h)).cell 0)
    | (go_at_call 25; refine (job25_nil _ _).mono ?_; rintro e w3 ⟨rfl, rfl⟩)
    | (go_at_call 27; refine (all27_nil _).mono ?_; rintro e w3 ⟨rfl, rfl⟩)
    | (go_at_call 30; refine (jobs30_nil _).mono ?_; rintro e w3 ⟨rfl, rfl⟩)
    | (go_at_call 21; refine (live_any _).mono ?_; rintro e w6 ⟨rfl, hf6⟩))
  go_ret
  exact ⟨rfl, ((((Fr.refl _ w).alloc _).then hf1).then hf2).then hf6⟩

set_option maxRecDepth 100000 in
theorem nil_lifted (os : Os) (started : os.Started) (H : Type) (enc : TypeId × Value → H) :
    ReturnsInHanded {} Try.checked os 7 .any (Rows.acctNilSpec.pre6 enc Try.prog Try.f7 Rows.acctNilRow.domain false) (Rows.acctNilSpec.post enc Try.prog Try.f7 false true false false) := by
  refine returnsInHanded_of_change (C := Try.checked) own started (by kernel_rfl) Try.func7
    (ChangeSpec.witness6 (enc := enc) (C := Try.checked) false ⟨#[], #[.agg #[.int .i64 0, .int .i64 0, .int .i64 0, .int .i64 0]], []⟩ 8 (by kernel_rfl) (by kernel_rfl) (by kernel_rfl) (by kernel_rfl)) ?_
  intro W base args ds gs before hval0 hW _ _
  have hval : ∀ (j : Nat) t v, Try.f7.params[j]? = some t → args[j]? = some v → Value.okWide Try.prog W .any base t v := hval0
  have hW' := hW
  obtain ⟨p, q, hA0, hV, rfl, hfz, hnd⟩ := hW
  have hA : DataW.TrodAll enc Try.prog W 0 (fun _ => true) true Try.f7.params.toList args.toList ds p := hA0
  rw [Try.params7] at hA hval
  obtain ⟨v0, d0, rfl, rfl, h0⟩ := trodAll_one hA
  obtain ⟨x, rfl, _⟩ := use_arg (hval 0 23 v0 rfl rfl) h0
  refine (nil7_any x W).mono fun e W' ⟨he, hb⟩ => ⟨_, he, ?_⟩
  exact law_post laidOut (by kernel_rfl) rfl Try.underlying4 rfl (fun ds h => by match ds, h with | [_], _ => rfl) hW' hb.below0

theorem acctNil_holds : Rows.AcctNilSaid :=
  OpenClaim.holds_of_wide 7 Try.f7 rfl rfl rfl rfl rfl rfl rfl ⟨rfl, rfl, rfl, rfl, rfl⟩ rfl rfl rfl rfl rfl (by kernel_rfl) Try.func7 (by kernel_rfl)
    (of_decide_eq_true (by kernel_rfl)) (by unfold Func.isWrapper; first | (rw [if_pos (by decide +kernel)]; kernel_rfl) | (rw [if_neg (by decide +kernel)]; exact ⟨rfl, rfl⟩))
    (fun os started H enc _ => nil_lifted os started H enc)

#print axioms acctNil_holds

end Go.Proofs.Ytomoomopodihhaa
