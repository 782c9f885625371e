/-
  'roundhouselaw04.CoresTell': whatever the layout, the order and the core, the program tells what the document says: the law returns true and its arguments read as they did.
  For every input; no condition.
-/
import Derived.Test.YtcefadbnmpjeiaaArgs
namespace Go.Proofs.Ytcefadbnmpjeiaa
open Go.ChangeShapes Go.WideShapes Go.ChangeAt Go.RowKit

set_option maxRecDepth 20000 in
set_option maxHeartbeats 2000000 in
theorem tell3_any (l : LayD) (d c : Int) (w : World) : Calls Try.prog 3 #[l.val, .int .i64 d, .int .i64 c] w fun e w' => e = .returned (.bool true) ∧ Fr (fun _ => False) w w' := by
  have h14 := fun W => own14_any l W
  have h13 := fun W => order13_any l d W
  have h15 := fun W => order15_any l d W
  have h16 := fun W => all16_any l W
  have h22 := fun W => all22_any l W
  have h18 := fun W => check18_any l W
  have h19 := fun W => check19_any l W
  have h20 := fun W => socket20_any l c W
  have h21 := fun W => socket21_any l c W
  have hL := order_len l d
  have hq := fun W => eq_masks l.all_lt l.all_lt 40 Try.underlying40 W
  rw [decide_eq_true rfl] at hq
  generalize l.order d = L at *
  generalize orderE l d = oe at *
  generalize l.all = M at *
  generalize l.check = ck at *
  generalize l.socket c = sk at *
  obtain ⟨s, p⟩ := l
  simp only [LayD.val, valM, Ytcefadbnmpjeiaa.cellsM] at *
  have H14 := Lib.hid h14
  have H13 := Lib.hid h13
  have H15 := Lib.hid h15
  have H16 := Lib.hid h16
  have H22 := Lib.hid h22
  have H18 := Lib.hid h18
  have H19 := Lib.hid h19
  have H20 := Lib.hid h20
  have H21 := Lib.hid h21
  clear h14 h13 h15 h16 h22 h18 h19 h20 h21
  have HB := Lib.hid (Blk.new w 23 #[.int .i64 s, .int .i64 p])
  go_enter Try.func3, Try.ntmps3
  go_wp2_with fail
  refine (H14.out _).mono ?_
  rintro e w1 ⟨rfl, hf1⟩
  go_wp2_with fail
  refine (H13.out _).mono ?_
  rintro e w2 ⟨v2, rfl, hr2, hf2⟩
  have hi2 := IntsV.of_row hr2
  have hb2 := (HB.out.fr hf1 (fun h => h)).fr hf2 (fun h => h)
  have e2 := fun i => hb2.cell i
  go_wp2_with fail
  refine (H15.out _).mono ?_
  rintro e w3 ⟨v3, rfl, hr3, hf3⟩
  have hi3 := IntsV.of_row hr3
  have hi2' := hi2.fr0 hf3
  have hb3 := hb2.fr hf3 (fun h => h)
  clear e2
  have e3 := fun i => hb3.cell i
  go_wp2_with fail
  refine (H14.out _).mono ?_
  rintro e w4 ⟨rfl, hf4⟩
  clear e3
  go_wp2_with fail
  refine (H16.out _).mono ?_
  rintro e w5 ⟨rfl, hf5⟩
  have hF5 : Fr (fun _ => False) w w5 := (((((Fr.refl _ w).alloc _).then hf1).then hf2).then hf3).then (hf4.then hf5)
  have hb5 := ((hb3.fr hf4 (fun h => h)).fr hf5 (fun h => h)).alloc (.cells (Ytcefadbnmpjeiaa.cellsM M) 33)
  have hm5 := Blk.new w5 33 (Ytcefadbnmpjeiaa.cellsM M)
  obtain ⟨m0, m1, m2, m3⟩ := hm5.cellsM
  have hi3' := ((hi3.fr0 hf4).fr0 hf5).fr0 ((Fr.refl _ w5).alloc (.cells (Ytcefadbnmpjeiaa.cellsM M) 33))
  have hi2'' := ((hi2'.fr0 hf4).fr0 hf5).fr0 ((Fr.refl _ w5).alloc (.cells (Ytcefadbnmpjeiaa.cellsM M) 33))
  have h17 := fun (dd : Later (w5.alloc (.cells (Ytcefadbnmpjeiaa.cellsM M) 33))) => same_any dd.val v2 v3 L L (hi2''.fr0 dd.fr) (hi3'.fr0 dd.fr) (by unfold maxLen; omega) (by unfold maxLen; omega) true (by simp [Hid])
  have l0 := Later.cell (hb5.cell 0)
  have l1 := Later.cell (hb5.cell 1)
  have l2 := Later.cell m0
  have l3 := Later.cell m1
  have l4 := Later.cell m2
  have l5 := Later.cell m3
  have H17 := Lib.hid h17
  have HF := Lib.hid hF5
  clear h17 m0 m1 m2 m3 hb5 hm5 hi3' hi2'' hi2 hi3 hi2' hr2 hr3 hb2 hb3 hF5 hf1 hf2 hf3 hf4 hf5
  simp only [Ytcefadbnmpjeiaa.cellsM] at l0 l1 l2 l3 l4 l5 H17
  go_wp2_with fail
  refine wp_region_later (w5.alloc (.cells #[.int .u64 (wordM M 0 : Nat), .int .u64 (wordM M 1 : Nat), .int .u64 (wordM M 2 : Nat), .int .u64 (wordM M 3 : Nat)] 33)) (by kernel_rfl) (by kernel_rfl) (Fr.refl _ _) ?_
  repeat (go_big_quiet_step (first
    | (go_at_call 17; exact later_call (H17.out _))
    | (go_at_call 14; exact later_call (H14.out _))
    | (go_at_call 18; exact later_call (H18.out _))
    | (go_at_call 19; exact later_call (H19.out _))
    | (go_at_call 20; exact later_call (H20.out _))
    | (go_at_call 21; exact later_call (H21.out _))
    | (go_at_call 22; exact later_call (H22.out _))
    | (go_at_call 23; exact later_call (live_any _))))
  refine wpQuiet_nil ?_
  rintro _ ⟨dd, rfl⟩
  go_wp2
  go_ret
  exact ⟨rfl, (HF.out.alloc _).then dd.fr⟩

set_option maxRecDepth 100000 in
theorem tell_lifted (os : Os) (started : os.Started) (H : Type) (enc : TypeId × Value → H) :
    ReturnsInHanded {} Try.checked os 3 .any (Rows.coresTellSpec.pre6 enc Try.prog Try.f3 Rows.coresTellRow.domain false) (Rows.coresTellSpec.post enc Try.prog Try.f3 false true false false) := by
  refine returnsInHanded_of_change (C := Try.checked) own started (by kernel_rfl) Try.func3
    (ChangeSpec.witness6 (enc := enc) (C := Try.checked) false ⟨#[], #[.agg #[.int .i64 0, .int .i64 0], .int .i64 0, .int .i64 0], []⟩ 8 (by kernel_rfl) (by kernel_rfl) (by kernel_rfl) (by kernel_rfl)) ?_
  intro W base args ds gs before hval0 hW _ _
  have hval : ∀ (j : Nat) t v, Try.f3.params[j]? = some t → args[j]? = some v → Value.okWide Try.prog W .any base t v := hval0
  have hW' := hW
  obtain ⟨p, q, hA0, hV, rfl, hfz, hnd⟩ := hW
  have hA : DataW.TrodAll enc Try.prog W 0 (fun _ => true) true Try.f3.params.toList args.toList ds p := hA0
  rw [Try.params3] at hA hval
  obtain ⟨v0, v1, v2, d0, d1, d2, p0, p1, p2, rfl, rfl, rfl, h0, h1, h2⟩ := trodAll_three hA
  obtain ⟨l, rfl, _⟩ := lay_arg (hval 0 23 v0 rfl rfl) h0
  obtain ⟨a, rfl, _, _, _⟩ := open_int Try.underlying3 (hval 1 3 v1 rfl rfl) h1
  obtain ⟨b, rfl, _, _, _⟩ := open_int Try.underlying3 (hval 2 3 v2 rfl rfl) h2
  refine (tell3_any l a b W).mono fun e W' ⟨he, hb⟩ => ⟨_, he, ?_⟩
  exact law_post laidOut (by kernel_rfl) rfl Try.underlying4 rfl (fun ds h => by match ds, h with | [_, _, _], _ => rfl) hW' hb.below0

theorem coresTell_holds : Rows.CoresTellSaid :=
  OpenClaim.holds_of_wide 3 Try.f3 rfl rfl rfl rfl rfl rfl rfl ⟨rfl, rfl, rfl, rfl, rfl⟩ rfl rfl rfl rfl rfl (by kernel_rfl) Try.func3 (by kernel_rfl)
    (of_decide_eq_true (by kernel_rfl)) (by unfold Func.isWrapper; first | (rw [if_pos (by decide +kernel)]; kernel_rfl) | (rw [if_neg (by decide +kernel)]; exact ⟨rfl, rfl⟩))
    (fun os started H enc _ => tell_lifted os started H enc)

#print axioms coresTell_holds

end Go.Proofs.Ytcefadbnmpjeiaa
