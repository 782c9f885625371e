/-
  'roundhouselaw11.AcctTells': whatever the input, the sum, the product, and what a use comes to, are the document's: the law returns true and its arguments read as they did.
  For every input; no condition.
-/
import Derived.Test.YtomoomopodihhaaArgs
namespace Go.Proofs.Ytomoomopodihhaa
open Go.ChangeShapes Go.WideShapes Go.ChangeAt Go.RowKit

set_option maxHeartbeats 1000000 in
theorem tells3_any (a b : Int) (ha : wf64 a) (hb : wf64 b) (x : UseD) (hx : x.wf) (w : World) : Calls Try.prog 3 #[.int .i64 a, .int .i64 b, x.val] w fun e w' => e = .returned (.bool true) ∧ Fr (fun _ => False) w w' := by
  have h15 := fun W => own15_any x W
  have h14 := fun W => of14_any x hx W
  have h16 := fun W => of16_any x hx W
  have h17 := fun W => add17_any a b ha hb W
  have h18 := fun W => add18_any a b ha hb W
  have h19 := fun W => times19_any a b ha hb W
  have h20 := fun W => times20_any a b ha hb W
  generalize ofS x = o at *
  generalize addS a b = s at *
  generalize timesS a b = p at *
  obtain ⟨o1, o2⟩ := o
  obtain ⟨job, cores, frm, til⟩ := x
  simp only [UseD.val, UseD.cells] at *
  have H15 := Lib.hid h15
  have H14 := Lib.hid h14
  have H16 := Lib.hid h16
  have H17 := Lib.hid h17
  have H18 := Lib.hid h18
  have H19 := Lib.hid h19
  have H20 := Lib.hid h20
  clear h15 h14 h16 h17 h18 h19 h20 ha hb hx
  have HB := Lib.hid (Blk.new w 23 #[.int .i64 job, .int .i64 cores, .int .i64 frm, .int .i64 til])
  go_enter Try.func3, Try.ntmps3
  go_wp2_with (first
    | (go_at_call 15; refine (H15.out _).mono ?_; rintro e w1 ⟨rfl, hf1⟩)
    | (go_at_call 14; refine (H14.out _).mono ?_; rintro e w2 ⟨rfl, hf2⟩; have e1 := fun i => ((HB.out.fr hf1 (fun h => h)).fr hf2 (fun h => h)).cell i)
    | (go_at_call 16; refine (H16.out _).mono ?_; rintro e w3 ⟨rfl, hf3⟩; clear e1)
    | (go_at_call 17; refine (H17.out _).mono ?_; rintro e w4 ⟨rfl, rfl⟩)
    | (go_at_call 18; refine (H18.out _).mono ?_; rintro e w4 ⟨rfl, rfl⟩)
    | (go_at_call 19; refine (H19.out _).mono ?_; rintro e w4 ⟨rfl, rfl⟩)
    | (go_at_call 20; refine (H20.out _).mono ?_; rintro e w4 ⟨rfl, rfl⟩)
    | (go_at_call 21; refine (live_any _).mono ?_; rintro e w6 ⟨rfl, hf6⟩))
  go_ret
  exact ⟨rfl, (((((Fr.refl _ w).alloc _).then hf1).then hf2).then hf3).then hf6⟩

set_option maxRecDepth 100000 in
theorem tells_lifted (os : Os) (started : os.Started) (H : Type) (enc : TypeId × Value → H) :
    ReturnsInHanded {} Try.checked os 3 .any (Rows.acctTellsSpec.pre6 enc Try.prog Try.f3 Rows.acctTellsRow.domain false) (Rows.acctTellsSpec.post enc Try.prog Try.f3 false true false false) := by
  refine returnsInHanded_of_change (C := Try.checked) own started (by kernel_rfl) Try.func3
    (ChangeSpec.witness6 (enc := enc) (C := Try.checked) false ⟨#[], #[.int .i64 0, .int .i64 0, .agg #[.int .i64 0, .int .i64 0, .int .i64 0, .int .i64 0]], []⟩ 8 (by kernel_rfl) (by kernel_rfl) (by kernel_rfl) (by kernel_rfl)) ?_
  intro W base args ds gs before hval0 hW _ _
  have hval : ∀ (j : Nat) t v, Try.f3.params[j]? = some t → args[j]? = some v → Value.okWide Try.prog W .any base t v := hval0
  have hW' := hW
  obtain ⟨p, q, hA0, hV, rfl, hfz, hnd⟩ := hW
  have hA : DataW.TrodAll enc Try.prog W 0 (fun _ => true) true Try.f3.params.toList args.toList ds p := hA0
  rw [Try.params3] at hA hval
  obtain ⟨v0, v1, v2, d0, d1, d2, p0, p1, p2, rfl, rfl, rfl, h0, h1, h2⟩ := trodAll_three hA
  obtain ⟨a, rfl, _, _, ha⟩ := open_int Try.underlying3 (hval 0 3 v0 rfl rfl) h0
  obtain ⟨b, rfl, _, _, hb⟩ := open_int Try.underlying3 (hval 1 3 v1 rfl rfl) h1
  obtain ⟨x, rfl, hx⟩ := use_arg (hval 2 23 v2 rfl rfl) h2
  refine (tells3_any a b (lit_wf ha) (lit_wf hb) x hx W).mono fun e W' ⟨he, hb⟩ => ⟨_, he, ?_⟩
  exact law_post laidOut (by kernel_rfl) rfl Try.underlying4 rfl (fun ds h => by match ds, h with | [_, _, _], _ => rfl) hW' hb.below0

theorem acctTells_holds : Rows.AcctTellsSaid :=
  OpenClaim.holds_of_wide 3 Try.f3 rfl rfl rfl rfl rfl rfl rfl ⟨rfl, rfl, rfl, rfl, rfl⟩ rfl rfl rfl rfl rfl (by kernel_rfl) Try.func3 (by kernel_rfl)
    (of_decide_eq_true (by kernel_rfl)) (by unfold Func.isWrapper; first | (rw [if_pos (by decide +kernel)]; kernel_rfl) | (rw [if_neg (by decide +kernel)]; exact ⟨rfl, rfl⟩))
    (fun os started H enc _ => tells_lifted os started H enc)

#print axioms acctTells_holds

end Go.Proofs.Ytomoomopodihhaa
