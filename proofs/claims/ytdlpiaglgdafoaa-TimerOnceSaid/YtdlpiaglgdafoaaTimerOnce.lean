/-
  Deadlines that are set come once each, in order.
-/
import Derived.Test.YtdlpiaglgdafoaaTza
import Derived.Test.YtdlpiaglgdafoaaLaw
namespace Go.Proofs.Ytdlpiaglgdafoaa
open Go.ChangeShapes Go.WideShapes Go.ChangeAt Go.RowKit Go.Deep Go.Maps

theorem Fr.below_timerOnce {w w' : World} (h : Fr (fun i => w.heap.size ≤ i) w w') : Below w.heap.size w w' := h.below (Nat.le_refl _) (fun _ h => h)

set_option maxRecDepth 100000 in
theorem timerOnce_lifted (os : Os) (started : os.Started) (H : Type) (enc : TypeId × Value → H) :
    ReturnsInHanded {} Try.checked os 3 .any (Rows.timerOnceSpec.pre6 enc Try.prog Try.f3 Rows.timerOnceRow.domain false) (Rows.timerOnceSpec.post enc Try.prog Try.f3 false true false false) := by
  refine returnsInHanded_of_change (C := Try.checked) own started (by kernel_rfl) Try.func3
    (ChangeSpec.witness6 (enc := enc) (C := Try.checked) false ⟨#[], #[.slice none 0 0, .slice none 0 0], []⟩ 8 (by kernel_rfl) (by kernel_rfl) (by kernel_rfl) (by kernel_rfl)) ?_
  intro W base args ds gs before hval0 hW _ _
  have hval : ∀ (j : Nat) t v, Try.f3.params[j]? = some t → args[j]? = some v → Value.okWide Try.prog W .any base t v := hval0
  have hW' := hW
  obtain ⟨p, q, hA0, hV, rfl, hfz, hnd⟩ := hW
  have hA : DataW.TrodAll enc Try.prog W 0 (fun _ => true) true Try.f3.params.toList args.toList ds p := hA0
  rw [Try.params3] at hA hval
  obtain ⟨v0, v1, d0, d1, p0, p1, rfl, rfl, rfl, h0, h1⟩ := trodAll_two hA
  obtain ⟨ns0, w0⟩ := nums_arg (hval 0 22 v0 rfl rfl) h0
  obtain ⟨ns1, w1⟩ := nums_arg (hval 1 22 v1 rfl rfl) h1
  refine (timerOnce3_any W v0 v1 ns0 ns1 w0 w1).mono fun e W' ⟨he, hb⟩ => ⟨_, he, ?_⟩
  exact law_post laidOut (by kernel_rfl) rfl Try.underlying4 rfl (fun ds h => by match ds, h with | [_, _], _ => rfl) hW' (Fr.below_timerOnce hb)

theorem timerOnce_holds : Rows.TimerOnceSaid :=
  OpenClaim.holds_of_wide 3 Try.f3 rfl rfl rfl rfl rfl rfl rfl ⟨rfl, rfl, rfl, rfl, rfl⟩ rfl rfl rfl rfl rfl (by kernel_rfl) Try.func3 (by kernel_rfl)
    (of_decide_eq_true (by kernel_rfl)) (by unfold Func.isWrapper; first | (rw [if_pos (by decide +kernel)]; kernel_rfl) | (rw [if_neg (by decide +kernel)]; exact ⟨rfl, rfl⟩))
    (fun os started H enc _ => timerOnce_lifted os started H enc)

#print axioms timerOnce_holds

end Go.Proofs.Ytdlpiaglgdafoaa
