/-
  Of any layout, any wish: the program's Assign tells the very masks, and the very error, that the document's tells; and the answers that the document gives are given.
-/
import Derived.Test.YtcefadbnmpjeiaaAp
import Derived.Test.YtcefadbnmpjeiaaSm
import Derived.Test.YtcefadbnmpjeiaaWi
import Derived.Test.YtcefadbnmpjeiaaArgW
import Derived.Test.YtcefadbnmpjeiaaN
namespace Go.Proofs.Ytcefadbnmpjeiaa
open Go.ChangeShapes Go.WideShapes Go.ChangeAt Go.RowKit Go.Deep Go.Maps Go.Shelf

set_option maxRecDepth 20000 in
set_option maxHeartbeats 4000000 in
theorem assign4_any (l : LayD) (x : WishD) (w : World) : Calls Try.prog 4 #[l.val, x.val] w fun e w' => e = .returned (.bool true) ∧ Fr (fun _ => False) w w' := by
  have h14 := fun W => own14_any l W
  have h25 := fun W => wish25_any x W
  have h24 := fun W => assign24_any l x W
  have h26 := fun W => assign26_any l x W
  rw [assign_ref l x] at h24
  have hb := refP_lt l x
  have hn := refP_len l x
  generalize (refP l x).1 = Ms at *
  generalize (refP l x).2 = ee at *
  obtain ⟨s, p⟩ := l
  obtain ⟨F, r, q, d⟩ := x
  simp only [LayD.val, WishD.val, WishD.cells] at *
  have H14 := Lib.hid h14
  have H25 := Lib.hid h25
  have H24 := Lib.hid h24
  have H26 := Lib.hid h26
  have HBD := Lib.hid hb
  clear h14 h25 h24 h26 hb
  have hW := Blk.new (w.alloc (.cells #[.int .i64 s, .int .i64 p] 23)) 45 #[.int .u64 (wordM F 0 : Nat), .int .u64 (wordM F 1 : Nat), .int .u64 (wordM F 2 : Nat), .int .u64 (wordM F 3 : Nat), .int .i64 r, .int .i64 q, .int .i64 d]
  rw [World.size_alloc] at hW
  have hB := (Blk.new w 23 #[.int .i64 s, .int .i64 p]).alloc (.cells #[.int .u64 (wordM F 0 : Nat), .int .u64 (wordM F 1 : Nat), .int .u64 (wordM F 2 : Nat), .int .u64 (wordM F 3 : Nat), .int .i64 r, .int .i64 q, .int .i64 d] 45)
  have HF := Lib.hid (((Fr.refl (fun _ => False) w).alloc (.cells #[.int .i64 s, .int .i64 p] 23)).alloc (.cells #[.int .u64 (wordM F 0 : Nat), .int .u64 (wordM F 1 : Nat), .int .u64 (wordM F 2 : Nat), .int .u64 (wordM F 3 : Nat), .int .i64 r, .int .i64 q, .int .i64 d] 45))
  have l0 := Later.cell (hB.cell 0)
  have l1 := Later.cell (hB.cell 1)
  have l2 := Later.cell (hW.cell 0)
  have l3 := Later.cell (hW.cell 1)
  have l4 := Later.cell (hW.cell 2)
  have l5 := Later.cell (hW.cell 3)
  have l6 := Later.cell (hW.cell 4)
  have l7 := Later.cell (hW.cell 5)
  have l8 := Later.cell (hW.cell 6)
  have HB := Lib.hid hB
  have HW := Lib.hid hW
  clear hB hW
  go_enter Try.func4, Try.ntmps4
  go_wp2_with fail
  refine wp_region_mid ((w.alloc (.cells #[.int .i64 s, .int .i64 p] 23)).alloc (.cells #[.int .u64 (wordM F 0 : Nat), .int .u64 (wordM F 1 : Nat), .int .u64 (wordM F 2 : Nat), .int .u64 (wordM F 3 : Nat), .int .i64 r, .int .i64 q, .int .i64 d] 45)) 4 0 (by kernel_rfl) (by kernel_rfl) (Fr.refl _ _) ?_
  simp only [List.take_succ_cons, List.take_zero, List.drop_succ_cons, List.drop_zero, Nat.reduceAdd]
  repeat (go_big_quiet_step (first
    | (go_at_call 14; exact later_call (H14.out _))
    | (go_at_call 25; exact later_call (H25.out _))))
  refine wpQuiet_nil ?_
  rintro _ ⟨dd, rfl⟩
  clear l0 l1 l2 l3 l4 l5 l6 l7 l8
  go_wp2_with (go_at_call 24; refine (H24.out _).mono ?_; rintro e w2 ⟨v2, rfl, hr2, hf2⟩)
  have hi2 := MsV.of_row hr2
  obtain ⟨A2, c2, rfl⟩ := row_shape hr2
  have HI2 := Lib.hid hi2
  have hB2 := (HB.out.fr dd.fr (fun h => h)).fr hf2 (fun h => h)
  have hW2 := (HW.out.fr dd.fr (fun h => h)).fr hf2 (fun h => h)
  have HF2 := Lib.hid ((HF.out.then dd.fr).then hf2)
  clear hi2 hr2 hf2 HB HW HF
  simp only [Mid]
  repeat (go_big_quiet_step (fail))
  refine wpQuiet_nil ?_
  rintro _ ⟨d2, rfl⟩
  have hB3 := hB2.fr d2.fr (fun h => h)
  have hW3 := hW2.fr d2.fr (fun h => h)
  have HI3 := Lib.hid (HI2.out.fr0 d2.fr)
  have HF3 := Lib.hid (HF2.out.then d2.fr)
  clear hB2 hW2 HI2 HF2
  have e1 := fun i => hB3.cell i
  have e2 := fun i => hW3.cell i
  go_wp2_with fail
  refine (H26.out _).mono ?_
  rintro e w4 ⟨v4, rfl, hr4, hf4⟩
  have hi4 := MsV.of_row hr4
  obtain ⟨A4, c4, rfl⟩ := row_shape hr4
  have HI4 := Lib.hid hi4
  have H28 := Lib.hid (told28_any w4 _ Ms (HI3.out.fr0 hf4) (by omega))
  have HF4 := Lib.hid (HF3.out.then hf4)
  clear e1 e2 hi4 hr4 hf4
  go_wp2_with fail
  refine H28.out.mono ?_
  rintro e w5 ⟨v5, rfl, hr5, hf5⟩
  have hi5 := MsV.of_row hr5
  have H27 := Lib.hid (same27_any w5 _ _ Ms Ms hi5 (HI4.out.fr0 hf5) (by omega) (by omega) HBD.out HBD.out true (by simp [Hid]))
  obtain ⟨A5, c5, rfl⟩ := row_shape hr5
  have HF5 := Lib.hid (HF4.out.then hf5)
  clear hi5 hr5 hf5
  go_wp2_with fail
  refine H27.out.mono ?_
  rintro e w6 ⟨rfl, hf6⟩
  go_wp2_with fail
  refine (live_any _).mono ?_
  rintro e w7 ⟨rfl, hf7⟩
  go_wp2_with fail
  go_ret
  exact ⟨rfl, (HF5.out.then hf6).then hf7⟩

set_option maxRecDepth 100000 in
theorem assign_lifted (os : Os) (started : os.Started) (H : Type) (enc : TypeId × Value → H) :
    ReturnsInHanded {} Try.checked os 4 .any (Rows.coresAssignSpec.pre6 enc Try.prog Try.f4 Rows.coresAssignRow.domain false) (Rows.coresAssignSpec.post enc Try.prog Try.f4 false true false false) := by
  refine returnsInHanded_of_change (C := Try.checked) own started (by kernel_rfl) Try.func4
    (ChangeSpec.witness6 (enc := enc) (C := Try.checked) false ⟨#[], #[.agg #[.int .i64 0, .int .i64 0], .agg #[.int .u64 0, .int .u64 0, .int .u64 0, .int .u64 0, .int .i64 0, .int .i64 0, .int .i64 0]], []⟩ 8 (by kernel_rfl) (by kernel_rfl) (by kernel_rfl) (by kernel_rfl)) ?_
  intro W base args ds gs before hval0 hW _ _
  have hval : ∀ (j : Nat) t v, Try.f4.params[j]? = some t → args[j]? = some v → Value.okWide Try.prog W .any base t v := hval0
  have hW' := hW
  obtain ⟨p, q, hA0, hV, rfl, hfz, hnd⟩ := hW
  have hA : DataW.TrodAll enc Try.prog W 0 (fun _ => true) true Try.f4.params.toList args.toList ds p := hA0
  rw [Try.params4] at hA hval
  obtain ⟨v0, v1, d0, d1, p0, p1, rfl, rfl, rfl, h0, h1⟩ := trodAll_two hA
  obtain ⟨l, rfl, _⟩ := lay_arg (hval 0 23 v0 rfl rfl) h0
  obtain ⟨x, rfl, _⟩ := wish_arg (hval 1 45 v1 rfl rfl) h1
  refine (assign4_any l x W).mono fun e W' ⟨he, hb⟩ => ⟨_, he, ?_⟩
  exact law_post laidOut (by kernel_rfl) rfl Try.underlying4 rfl (fun ds h => by match ds, h with | [_, _], _ => rfl) hW' hb.below0

theorem coresAssign_holds : Rows.CoresAssignSaid :=
  OpenClaim.holds_of_wide 4 Try.f4 rfl rfl rfl rfl rfl rfl rfl ⟨rfl, rfl, rfl, rfl, rfl⟩ rfl rfl rfl rfl rfl (by kernel_rfl) Try.func4 (by kernel_rfl)
    (of_decide_eq_true (by kernel_rfl)) (by unfold Func.isWrapper; first | (rw [if_pos (by decide +kernel)]; kernel_rfl) | (rw [if_neg (by decide +kernel)]; exact ⟨rfl, rfl⟩))
    (fun os started H enc _ => assign_lifted os started H enc)

#print axioms coresAssign_holds

end Go.Proofs.Ytcefadbnmpjeiaa
