/-
  'roundhouselaw11.AcctMost': whatever the input, sums and products are never below their parts, and do not hang on order: the law returns true and its arguments read as they did.
  For every input; no condition.
-/
import Derived.Test.YtomoomopodihhaaArgs
namespace Go.Proofs.Ytomoomopodihhaa
open Go.ChangeShapes Go.WideShapes Go.ChangeAt Go.RowKit

theorem addS_comm (a b : Int) : addS b a = addS a b := by unfold addS; omega
theorem addS_assoc (a b c : Int) : addS a (addS b c) = addS (addS a b) c := by unfold addS; omega
theorem addS_ge (a b : Int) (ha : wf64 a) (hb : wf64 b) : a ≤ addS a b ∧ b ≤ addS a b := by unfold addS; unfold wf64 at *; omega
theorem timesS_comm (a b : Int) : timesS b a = timesS a b := by unfold timesS; rw [Int.mul_comm]
theorem timesS_one (a : Int) (ha : wf64 a) : timesS a 1 = max a 0 := by unfold timesS; unfold wf64 at ha; rw [show max (1 : Int) 0 = 1 by decide, Int.mul_one]; omega
theorem timesS_ge {a b : Int} (ha : wf64 a) (hb : wf64 b) (h1 : 0 < a) (h2 : 0 < b) : a ≤ timesS a b ∧ b ≤ timesS a b := by
  have e1 : max a 0 = a := by omega
  have e2 : max b 0 = b := by omega
  have h3 : a * 1 ≤ a * b := Int.mul_le_mul_of_nonneg_left (by omega) (by omega)
  have h4 : 1 * b ≤ a * b := Int.mul_le_mul_of_nonneg_right (by omega) (by omega)
  unfold timesS
  rw [e1, e2]
  unfold wf64 at ha hb
  generalize a * b = m at *
  omega

set_option maxHeartbeats 2000000 in
theorem most8_any (a b c : Int) (ha : wf64 a) (hb : wf64 b) (hc : wf64 c) (w : World) : Calls Try.prog 8 #[.int .i64 a, .int .i64 b, .int .i64 c] w fun e w' => e = .returned (.bool true) ∧ Fr (fun _ => False) w w' := by
  have hs := addS_wf a b
  have ht := addS_wf b c
  have hp := timesS_wf a b
  have hg := addS_ge a b ha hb
  have a1 := fun W => add17_any a b ha hb W
  have a2 := fun W => add17_any b a hb ha W
  rw [addS_comm a b] at a2
  have a3 := fun W => add17_any (addS a b) c hs.1 hc W
  have a4 := fun W => add17_any b c hb hc W
  have a5 := fun W => add17_any a (addS b c) ha ht.1 W
  rw [addS_assoc a b c] at a5
  have m1 := fun W => times19_any a b ha hb W
  have m2 := fun W => times19_any b a hb ha W
  rw [timesS_comm a b] at m2
  have m3 := fun W => times19_any a 1 ha (by simp [wf64]) W
  rw [timesS_one a ha] at m3
  have m4 := fun W => times19_any a 0 ha (by simp [wf64]) W
  rw [timesS_r (a := a) (b := 0) (by omega)] at m4
  have hge : 0 < a → 0 < b → a ≤ timesS a b ∧ b ≤ timesS a b := timesS_ge ha hb
  generalize addS (addS a b) c = u at *
  generalize addS a b = s at *
  generalize addS b c = t at *
  generalize timesS a b = p at *
  obtain ⟨g1, g2⟩ := hg
  have g3 := hs.2
  have g4 := hp.2
  have A1 := Lib.hid a1
  have A2 := Lib.hid a2
  have A3 := Lib.hid a3
  have A4 := Lib.hid a4
  have A5 := Lib.hid a5
  have M1 := Lib.hid m1
  have M2 := Lib.hid m2
  have M4 := Lib.hid m4
  clear a1 a2 a3 a4 a5 m1 m2 m4 ha hb hc hs ht hp
  have b1 : (decide (s < a)) = false := decide_eq_false (by omega)
  have b2 : (decide (s < b)) = false := decide_eq_false (by omega)
  have b3 : (decide (s < 0)) = false := decide_eq_false (by omega)
  have b4 : (decide (p < 0)) = false := decide_eq_false (by omega)
  by_cases h1 : 0 < a
  · have b5 : (decide (0 < a)) = true := decide_eq_true h1
    have e1 : max a 0 = a := by omega
    rw [e1] at m3
    have M3 := Lib.hid m3
    clear m3
    by_cases h2 : 0 < b
    · obtain ⟨g5, g6⟩ := hge h1 h2
      have b6 : (decide (0 < b)) = true := decide_eq_true h2
      have b7 : (decide (p < a)) = false := decide_eq_false (by omega)
      have b8 : (decide (p < b)) = false := decide_eq_false (by omega)
      clear hge
      go_enter Try.func8, Try.ntmps8
      go_wp2_with fail
      refine (A1.out _).mono ?_
      rintro e w4 ⟨rfl, rfl⟩
      go_wp2_with fail
      refine (M1.out _).mono ?_
      rintro e w4 ⟨rfl, rfl⟩
      go_wp2_with fail
      refine (A2.out _).mono ?_
      rintro e w4 ⟨rfl, rfl⟩
      go_wp2_with fail
      refine (M2.out _).mono ?_
      rintro e w4 ⟨rfl, rfl⟩
      go_wp2_with fail
      refine (A1.out _).mono ?_
      rintro e w4 ⟨rfl, rfl⟩
      go_wp2_with fail
      refine (A3.out _).mono ?_
      rintro e w4 ⟨rfl, rfl⟩
      go_wp2_with fail
      refine (A4.out _).mono ?_
      rintro e w4 ⟨rfl, rfl⟩
      go_wp2_with fail
      refine (A5.out _).mono ?_
      rintro e w4 ⟨rfl, rfl⟩
      go_wp2_with fail
      refine (M3.out _).mono ?_
      rintro e w4 ⟨rfl, rfl⟩
      go_wp2_with fail
      refine (M4.out _).mono ?_
      rintro e w4 ⟨rfl, rfl⟩
      go_wp2_with fail
      refine (live_any _).mono ?_
      rintro e w6 ⟨rfl, hf6⟩
      go_wp2_with fail
      go_ret
      exact ⟨rfl, hf6⟩
    · have b6 : (decide (0 < b)) = false := decide_eq_false h2
      clear hge
      go_enter Try.func8, Try.ntmps8
      go_wp2_with fail
      refine (A1.out _).mono ?_
      rintro e w4 ⟨rfl, rfl⟩
      go_wp2_with fail
      refine (M1.out _).mono ?_
      rintro e w4 ⟨rfl, rfl⟩
      go_wp2_with fail
      refine (A2.out _).mono ?_
      rintro e w4 ⟨rfl, rfl⟩
      go_wp2_with fail
      refine (M2.out _).mono ?_
      rintro e w4 ⟨rfl, rfl⟩
      go_wp2_with fail
      refine (A1.out _).mono ?_
      rintro e w4 ⟨rfl, rfl⟩
      go_wp2_with fail
      refine (A3.out _).mono ?_
      rintro e w4 ⟨rfl, rfl⟩
      go_wp2_with fail
      refine (A4.out _).mono ?_
      rintro e w4 ⟨rfl, rfl⟩
      go_wp2_with fail
      refine (A5.out _).mono ?_
      rintro e w4 ⟨rfl, rfl⟩
      go_wp2_with fail
      refine (M3.out _).mono ?_
      rintro e w4 ⟨rfl, rfl⟩
      go_wp2_with fail
      refine (M4.out _).mono ?_
      rintro e w4 ⟨rfl, rfl⟩
      go_wp2_with fail
      refine (live_any _).mono ?_
      rintro e w6 ⟨rfl, hf6⟩
      go_wp2_with fail
      go_ret
      exact ⟨rfl, hf6⟩
  · have b5 : (decide (0 < a)) = false := decide_eq_false h1
    have e1 : max a 0 = 0 := by omega
    rw [e1] at m3
    have M3 := Lib.hid m3
    have b9 : a ≤ 0 := by omega
    clear m3 hge
    go_enter Try.func8, Try.ntmps8
    go_wp2_with fail
    refine (A1.out _).mono ?_
    rintro e w4 ⟨rfl, rfl⟩
    go_wp2_with fail
    refine (M1.out _).mono ?_
    rintro e w4 ⟨rfl, rfl⟩
    go_wp2_with fail
    refine (A2.out _).mono ?_
    rintro e w4 ⟨rfl, rfl⟩
    go_wp2_with fail
    refine (M2.out _).mono ?_
    rintro e w4 ⟨rfl, rfl⟩
    go_wp2_with fail
    refine (A1.out _).mono ?_
    rintro e w4 ⟨rfl, rfl⟩
    go_wp2_with fail
    refine (A3.out _).mono ?_
    rintro e w4 ⟨rfl, rfl⟩
    go_wp2_with fail
    refine (A4.out _).mono ?_
    rintro e w4 ⟨rfl, rfl⟩
    go_wp2_with fail
    refine (A5.out _).mono ?_
    rintro e w4 ⟨rfl, rfl⟩
    go_wp2_with fail
    refine (M3.out _).mono ?_
    rintro e w4 ⟨rfl, rfl⟩
    go_wp2_with fail
    refine (M4.out _).mono ?_
    rintro e w4 ⟨rfl, rfl⟩
    go_wp2_with fail
    refine (live_any _).mono ?_
    rintro e w6 ⟨rfl, hf6⟩
    go_wp2_with fail
    go_ret
    exact ⟨rfl, hf6⟩

set_option maxRecDepth 100000 in
theorem most_lifted (os : Os) (started : os.Started) (H : Type) (enc : TypeId × Value → H) :
    ReturnsInHanded {} Try.checked os 8 .any (Rows.acctMostSpec.pre6 enc Try.prog Try.f8 Rows.acctMostRow.domain false) (Rows.acctMostSpec.post enc Try.prog Try.f8 false true false false) := by
  refine returnsInHanded_of_change (C := Try.checked) own started (by kernel_rfl) Try.func8
    (ChangeSpec.witness6 (enc := enc) (C := Try.checked) false ⟨#[], #[.int .i64 0, .int .i64 0, .int .i64 0], []⟩ 8 (by kernel_rfl) (by kernel_rfl) (by kernel_rfl) (by kernel_rfl)) ?_
  intro W base args ds gs before hval0 hW _ _
  have hval : ∀ (j : Nat) t v, Try.f8.params[j]? = some t → args[j]? = some v → Value.okWide Try.prog W .any base t v := hval0
  have hW' := hW
  obtain ⟨p, q, hA0, hV, rfl, hfz, hnd⟩ := hW
  have hA : DataW.TrodAll enc Try.prog W 0 (fun _ => true) true Try.f8.params.toList args.toList ds p := hA0
  rw [Try.params8] at hA hval
  obtain ⟨v0, v1, v2, d0, d1, d2, p0, p1, p2, rfl, rfl, rfl, h0, h1, h2⟩ := trodAll_three hA
  obtain ⟨a, rfl, _, _, ha⟩ := open_int Try.underlying3 (hval 0 3 v0 rfl rfl) h0
  obtain ⟨b, rfl, _, _, hb⟩ := open_int Try.underlying3 (hval 1 3 v1 rfl rfl) h1
  obtain ⟨c, rfl, _, _, hc⟩ := open_int Try.underlying3 (hval 2 3 v2 rfl rfl) h2
  refine (most8_any a b c (lit_wf ha) (lit_wf hb) (lit_wf hc) W).mono fun e W' ⟨he, hb⟩ => ⟨_, he, ?_⟩
  exact law_post laidOut (by kernel_rfl) rfl Try.underlying4 rfl (fun ds h => by match ds, h with | [_, _, _], _ => rfl) hW' hb.below0

theorem acctMost_holds : Rows.AcctMostSaid :=
  OpenClaim.holds_of_wide 8 Try.f8 rfl rfl rfl rfl rfl rfl rfl ⟨rfl, rfl, rfl, rfl, rfl⟩ rfl rfl rfl rfl rfl (by kernel_rfl) Try.func8 (by kernel_rfl)
    (of_decide_eq_true (by kernel_rfl)) (by unfold Func.isWrapper; first | (rw [if_pos (by decide +kernel)]; kernel_rfl) | (rw [if_neg (by decide +kernel)]; exact ⟨rfl, rfl⟩))
    (fun os started H enc _ => most_lifted os started H enc)

#print axioms acctMost_holds

end Go.Proofs.Ytomoomopodihhaa
