/-
  A queue that is none has nothing.
-/
import Derived.Test.YtdlpiaglgdafoaaTv
import Derived.Test.YtdlpiaglgdafoaaLaw
namespace Go.Proofs.Ytdlpiaglgdafoaa
open Go.ChangeShapes Go.WideShapes Go.ChangeAt Go.RowKit Go.Deep Go.Maps

theorem Fr.below_timerNil {w w' : World} (h : Fr (fun i => w.heap.size ≤ i) w w') : Below w.heap.size w w' := h.below (Nat.le_refl _) (fun _ h => h)

set_option maxRecDepth 100000 in
theorem timerNil_lifted (os : Os) (started : os.Started) (H : Type) (enc : TypeId × Value → H) :
    ReturnsInHanded {} Try.checked os 6 .any (Rows.timerNilSpec.pre6 enc Try.prog Try.f6 Rows.timerNilRow.domain false) (Rows.timerNilSpec.post enc Try.prog Try.f6 false true false false) := by
  refine returnsInHanded_of_change (C := Try.checked) own started (by kernel_rfl) Try.func6
    (ChangeSpec.witness6 (enc := enc) (C := Try.checked) false ⟨#[], #[.int .i64 0], []⟩ 8 (by kernel_rfl) (by kernel_rfl) (by kernel_rfl) (by kernel_rfl)) ?_
  intro W base args ds gs before hval0 hW _ _
  have hval : ∀ (j : Nat) t v, Try.f6.params[j]? = some t → args[j]? = some v → Value.okWide Try.prog W .any base t v := hval0
  have hW' := hW
  obtain ⟨p, q, hA0, hV, rfl, hfz, hnd⟩ := hW
  have hA : DataW.TrodAll enc Try.prog W 0 (fun _ => true) true Try.f6.params.toList args.toList ds p := hA0
  rw [Try.params6] at hA hval
  obtain ⟨v0, d0, rfl, rfl, h0⟩ := trodAll_one hA
  obtain ⟨n0, rfl, rfl, rfl, w0⟩ := open_int Try.underlying3 (hval 0 3 v0 rfl rfl) h0
  refine ((timerNil6_any n0 W).mono fun e W' h => (⟨h.1, h.2.mono (fun _ _ h => h.elim)⟩ : e = .returned (.bool true) ∧ Fr (fun i => W.heap.size ≤ i) W W')).mono fun e W' ⟨he, hb⟩ => ⟨_, he, ?_⟩
  exact law_post laidOut (by kernel_rfl) rfl Try.underlying4 rfl (fun ds h => by match ds, h with | [_], _ => rfl) hW' (Fr.below_timerNil hb)

theorem timerNil_holds : Rows.TimerNilSaid :=
  OpenClaim.holds_of_wide 6 Try.f6 rfl rfl rfl rfl rfl rfl rfl ⟨rfl, rfl, rfl, rfl, rfl⟩ rfl rfl rfl rfl rfl (by kernel_rfl) Try.func6 (by kernel_rfl)
    (of_decide_eq_true (by kernel_rfl)) (by unfold Func.isWrapper; first | (rw [if_pos (by decide +kernel)]; kernel_rfl) | (rw [if_neg (by decide +kernel)]; exact ⟨rfl, rfl⟩))
    (fun os started H enc _ => timerNil_lifted os started H enc)

#print axioms timerNil_holds

end Go.Proofs.Ytdlpiaglgdafoaa
