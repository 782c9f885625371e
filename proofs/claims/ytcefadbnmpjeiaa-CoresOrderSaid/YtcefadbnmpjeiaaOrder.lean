/-
  'roundhouselaw04.CoresOrder': whatever the layout and the order, an order has each core once, and of a cyclic one no two that follow each other are of one socket: the law returns true and its arguments read as they did.
  For every input; no condition.
-/
import Derived.Test.YtcefadbnmpjeiaaOw
namespace Go.Proofs.Ytcefadbnmpjeiaa
open Go.ChangeShapes Go.WideShapes Go.ChangeAt Go.RowKit

set_option maxHeartbeats 1000000 in
theorem order5_no (l : LayD) (d : Int) (h : ¬ okO l d) (w : World) : Calls Try.prog 5 #[l.val, .int .i64 d] w fun e w' => e = .returned (.bool true) ∧ Fr (fun _ => False) w w' := by
  have h14 := fun W => own14_any l W
  have h13 := fun W => order13_bad l d h W
  obtain ⟨s, p⟩ := l
  simp only [LayD.val] at *
  have H14 := Lib.hid h14
  have H13 := Lib.hid h13
  clear h14 h13 h
  go_enter Try.func5, Try.ntmps5
  go_wp2_with fail
  refine (H14.out _).mono ?_
  rintro e w1 ⟨rfl, hf1⟩
  go_wp2_with fail
  refine (H13.out _).mono ?_
  rintro e w2 ⟨rfl, hf2⟩
  go_wp2_with fail
  refine (live_any _).mono ?_
  rintro e w3 ⟨rfl, hf3⟩
  go_wp2_with fail
  go_ret
  exact ⟨rfl, (((Fr.refl _ w).alloc _).then hf1).then (hf2.then hf3)⟩

theorem order5_any (l : LayD) (d : Int) (w : World) : Calls Try.prog 5 #[l.val, .int .i64 d] w fun e w' => e = .returned (.bool true) ∧ Fr (fun _ => False) w w' := by
  by_cases h : okO l d
  · obtain ⟨hof, hlen⟩ := order_facts h
    have h14 := fun W => own14_any l W
    have h13 := fun W => (order13_any l d W).mono fun e w' hx => hx
    have h16 := fun W => all16_any l W
    have hl := order_len l d
    have hO := fun W v (hi : IntsV W v (l.order d)) => of_any W v (l.order d) hi (by unfold maxLen; omega)
    rw [hof] at hO
    rw [show orderE l d = 0 from if_pos h] at h13
    have hd := h.2
    rcases hd with rfl | rfl
    · exact ord5_block l.s l.p (l.order 0) l.all l.all_lt hl hlen (fun j hj => order_next h j hj) (fun c hc => by
        have hgood : goodL (l.order 0) := by
          by_cases hg : goodL (l.order 0)
          · exact hg
          · rw [ofM, if_neg hg] at hof
            have h1 : (1 : Int) = 0 := congrArg Prod.snd hof
            exact absurd h1 (by decide)
        exact hgood.1 c hc) (Lib.hid h14) (Lib.hid h13) (Lib.hid hO) (Lib.hid h16) w
    · by_cases hs : 1 < l.s
      · exact ord5_many l.s l.p (l.order 1) l.all l.all_lt hl hlen hs l.socket (fun j hj => order_apart h hs j hj) (Lib.hid fun c W => socket20_any l c W) (Lib.hid h14) (Lib.hid h13) (Lib.hid hO) (Lib.hid h16) w
      · exact ord5_one l.s l.p (l.order 1) l.all l.all_lt hl hlen (by omega) (Lib.hid h14) (Lib.hid h13) (Lib.hid hO) (Lib.hid h16) w
  · exact order5_no l d h w

set_option maxRecDepth 100000 in
theorem order_lifted (os : Os) (started : os.Started) (H : Type) (enc : TypeId × Value → H) :
    ReturnsInHanded {} Try.checked os 5 .any (Rows.coresOrderSpec.pre6 enc Try.prog Try.f5 Rows.coresOrderRow.domain false) (Rows.coresOrderSpec.post enc Try.prog Try.f5 false true false false) := by
  refine returnsInHanded_of_change (C := Try.checked) own started (by kernel_rfl) Try.func5
    (ChangeSpec.witness6 (enc := enc) (C := Try.checked) false ⟨#[], #[.agg #[.int .i64 0, .int .i64 0], .int .i64 0], []⟩ 8 (by kernel_rfl) (by kernel_rfl) (by kernel_rfl) (by kernel_rfl)) ?_
  intro W base args ds gs before hval0 hW _ _
  have hval : ∀ (j : Nat) t v, Try.f5.params[j]? = some t → args[j]? = some v → Value.okWide Try.prog W .any base t v := hval0
  have hW' := hW
  obtain ⟨p, q, hA0, hV, rfl, hfz, hnd⟩ := hW
  have hA : DataW.TrodAll enc Try.prog W 0 (fun _ => true) true Try.f5.params.toList args.toList ds p := hA0
  rw [Try.params5] at hA hval
  obtain ⟨v0, v1, d0, d1, p0, p1, rfl, rfl, rfl, h0, h1⟩ := trodAll_two hA
  obtain ⟨l, rfl, _⟩ := lay_arg (hval 0 23 v0 rfl rfl) h0
  obtain ⟨a, rfl, _, _, _⟩ := open_int Try.underlying3 (hval 1 3 v1 rfl rfl) h1
  refine (order5_any l a W).mono fun e W' ⟨he, hb⟩ => ⟨_, he, ?_⟩
  exact law_post laidOut (by kernel_rfl) rfl Try.underlying4 rfl (fun ds h => by match ds, h with | [_, _], _ => rfl) hW' hb.below0

theorem coresOrder_holds : Rows.CoresOrderSaid :=
  OpenClaim.holds_of_wide 5 Try.f5 rfl rfl rfl rfl rfl rfl rfl ⟨rfl, rfl, rfl, rfl, rfl⟩ rfl rfl rfl rfl rfl (by kernel_rfl) Try.func5 (by kernel_rfl)
    (of_decide_eq_true (by kernel_rfl)) (by unfold Func.isWrapper; first | (rw [if_pos (by decide +kernel)]; kernel_rfl) | (rw [if_neg (by decide +kernel)]; exact ⟨rfl, rfl⟩))
    (fun os started H enc _ => order_lifted os started H enc)

#print axioms coresOrder_holds

end Go.Proofs.Ytcefadbnmpjeiaa
