/-
  'roundhouselaw11.AcctSplit': whatever the input, a use that is split at a tick, or whose cores are split, comes to the same: the law returns true and its arguments read as they did.
  For every input; no condition.
-/
import Derived.Test.YtomoomopodihhaaSq
namespace Go.Proofs.Ytomoomopodihhaa
open Go.ChangeShapes Go.WideShapes Go.ChangeAt Go.RowKit

theorem split6_any (u : UseD) (hu : u.wf) (at' k : Int) (w : World) :
    Calls Try.prog 6 #[u.val, .int .i64 at', .int .i64 k] w fun e w' => e = .returned (.bool true) ∧ Fr (fun _ => False) w w' := by
  by_cases hn : u.bad ∨ at' < u.frm ∨ u.til < at' ∨ k < 0 ∨ u.cores < k
  · exact split6_no u hu at' k hn w
  · exact split6_yes u hu at' k (fun h => hn (Or.inl h)) (by omega) (by omega) (by omega) (by omega) w

set_option maxRecDepth 100000 in
theorem split_lifted (os : Os) (started : os.Started) (H : Type) (enc : TypeId × Value → H) :
    ReturnsInHanded {} Try.checked os 6 .any (Rows.acctSplitSpec.pre6 enc Try.prog Try.f6 Rows.acctSplitRow.domain false) (Rows.acctSplitSpec.post enc Try.prog Try.f6 false true false false) := by
  refine returnsInHanded_of_change (C := Try.checked) own started (by kernel_rfl) Try.func6
    (ChangeSpec.witness6 (enc := enc) (C := Try.checked) false ⟨#[], #[.agg #[.int .i64 0, .int .i64 0, .int .i64 0, .int .i64 0], .int .i64 0, .int .i64 0], []⟩ 8 (by kernel_rfl) (by kernel_rfl) (by kernel_rfl) (by kernel_rfl)) ?_
  intro W base args ds gs before hval0 hW _ _
  have hval : ∀ (j : Nat) t v, Try.f6.params[j]? = some t → args[j]? = some v → Value.okWide Try.prog W .any base t v := hval0
  have hW' := hW
  obtain ⟨p, q, hA0, hV, rfl, hfz, hnd⟩ := hW
  have hA : DataW.TrodAll enc Try.prog W 0 (fun _ => true) true Try.f6.params.toList args.toList ds p := hA0
  rw [Try.params6] at hA hval
  obtain ⟨v0, v1, v2, d0, d1, d2, p0, p1, p2, rfl, rfl, rfl, h0, h1, h2⟩ := trodAll_three hA
  obtain ⟨x, rfl, hx⟩ := use_arg (hval 0 23 v0 rfl rfl) h0
  obtain ⟨a, rfl, _, _, ha⟩ := open_int Try.underlying3 (hval 1 3 v1 rfl rfl) h1
  obtain ⟨b, rfl, _, _, hb⟩ := open_int Try.underlying3 (hval 2 3 v2 rfl rfl) h2
  refine (split6_any x hx a b W).mono fun e W' ⟨he, hb⟩ => ⟨_, he, ?_⟩
  exact law_post laidOut (by kernel_rfl) rfl Try.underlying4 rfl (fun ds h => by match ds, h with | [_, _, _], _ => rfl) hW' hb.below0

theorem acctSplit_holds : Rows.AcctSplitSaid :=
  OpenClaim.holds_of_wide 6 Try.f6 rfl rfl rfl rfl rfl rfl rfl ⟨rfl, rfl, rfl, rfl, rfl⟩ rfl rfl rfl rfl rfl (by kernel_rfl) Try.func6 (by kernel_rfl)
    (of_decide_eq_true (by kernel_rfl)) (by unfold Func.isWrapper; first | (rw [if_pos (by decide +kernel)]; kernel_rfl) | (rw [if_neg (by decide +kernel)]; exact ⟨rfl, rfl⟩))
    (fun os started H enc _ => split_lifted os started H enc)

#print axioms acctSplit_holds

end Go.Proofs.Ytomoomopodihhaa
