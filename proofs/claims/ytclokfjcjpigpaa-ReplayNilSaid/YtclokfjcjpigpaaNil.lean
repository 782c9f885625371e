/-
  'roundhouselaw07.ReplayNil': whatever the input, a cache that is none keeps nothing: the law returns true and its arguments read as they did.
  For every input; no condition.
-/
import Derived.Test.YtclokfjcjpigpaaH
import Derived.Test.YtclokfjcjpigpaaArgs
namespace Go.Proofs.Ytclokfjcjpigpaa
open Go.ChangeShapes Go.WideShapes Go.ChangeAt Go.RowKit

theorem own : ownKnob Try.prog.godebug = none := by kernel_rfl

set_option maxHeartbeats 1000000 in
theorem nil6_any (x : CredD) (now : Int) (w : World) : Calls Try.prog 6 #[x.val, .int .i64 now] w fun e w' => e = .returned (.bool true) ∧ Below w.heap.size w w' := by
  have h18 := fun W => use18_nil W x now
  have h14 := fun W => used14_nil W x now
  have h16 := fun W => revoked16_nil W x
  obtain ⟨job, epoch, step, frm, unt, A, c, ns, cores⟩ := x
  simp only [CredD.val] at *
  have H18 := Lib.hid h18
  have H14 := Lib.hid h14
  have H16 := Lib.hid h16
  clear h18 h14 h16
  have hb0 := Blk.new w 31 #[.int .i64 job, .int .i64 epoch, .int .i64 step, .int .i64 frm, .int .i64 unt, .slice A ns.length c, .int .i64 cores]
  have HB := Lib.hid hb0
  clear hb0
  go_enter Try.func6, Try.ntmps6
  go_wp2_with (first
    | (go_at_call 18; refine (H18.out _).mono ?_; rintro e w1 ⟨rfl, hf1⟩; have hb1 := HB.out.fr hf1 (fun h => h); have e1 := fun i => hb1.cell i)
    | (go_at_call 14; refine (H14.out _).mono ?_; rintro e w2 ⟨rfl, hf2⟩; have hb2 := hb1.fr hf2 (fun h => h); clear e1; have e2 := fun i => hb2.cell i)
    | (go_at_call 19; refine (revoke19_nil _ _ _).mono ?_; rintro e w3 ⟨rfl, hf3⟩; have hb3 := hb2.fr hf3 (fun h => h); clear e2; have e3 := fun i => hb3.cell i)
    | (go_at_call 16; refine (H16.out _).mono ?_; rintro e w4 ⟨rfl, hf4⟩)
    | (go_at_call 13; refine (len13_nil _).mono ?_; rintro e w5 ⟨rfl, rfl⟩)
    | (go_at_call 9; refine (live_any _).mono ?_; rintro e w6 ⟨rfl, hb6⟩))
  go_ret
  refine ⟨rfl, Fr.below (S := fun _ => False) ?_ (Nat.le_refl _) (fun _ h => h.elim)⟩
  exact (((((Fr.refl _ w).alloc _).then hf1).then hf2).then hf3).then hf4 |>.below_then hb6

set_option maxRecDepth 100000 in
theorem nil_lifted (os : Os) (started : os.Started) (H : Type) (enc : TypeId × Value → H) :
    ReturnsInHanded {} Try.checked os 6 .any (Rows.replayNilSpec.pre6 enc Try.prog Try.f6 Rows.replayNilRow.domain false) (Rows.replayNilSpec.post enc Try.prog Try.f6 false true false false) := by
  refine returnsInHanded_of_change (C := Try.checked) own started (by kernel_rfl) Try.func6
    (ChangeSpec.witness6 (enc := enc) (C := Try.checked) false ⟨#[], #[.agg #[.int .i64 0, .int .i64 0, .int .i64 0, .int .i64 0, .int .i64 0, .slice none 0 0, .int .i64 0], .int .i64 0], []⟩ 8 (by kernel_rfl) (by kernel_rfl) (by kernel_rfl) (by kernel_rfl)) ?_
  intro W base args ds gs before hval0 hW _ _
  have hval : ∀ (j : Nat) t v, Try.f6.params[j]? = some t → args[j]? = some v → Value.okWide Try.prog W .any base t v := hval0
  have hW' := hW
  obtain ⟨p, q, hA0, hV, rfl, hfz, hnd⟩ := hW
  have hA : DataW.TrodAll enc Try.prog W 0 (fun _ => true) true Try.f6.params.toList args.toList ds p := hA0
  rw [Try.params6] at hA hval
  obtain ⟨v0, v1, d0, d1, p0, p1, rfl, rfl, rfl, h0, h1⟩ := trodAll_two hA
  obtain ⟨x, rfl, _, _, _⟩ := cred_arg (hval 0 31 v0 rfl rfl) h0
  obtain ⟨now, rfl, rfl, rfl, _⟩ := open_int Try.underlying3 (hval 1 3 v1 rfl rfl) h1
  refine (nil6_any x now W).mono fun e W' ⟨he, hb⟩ => ⟨_, he, ?_⟩
  exact law_post laidOut (by kernel_rfl) rfl Try.underlying4 rfl (fun ds h => by match ds, h with | [_, _], _ => rfl) hW' hb

theorem replayNil_holds : Rows.ReplayNilSaid :=
  OpenClaim.holds_of_wide 6 Try.f6 rfl rfl rfl rfl rfl rfl rfl ⟨rfl, rfl, rfl, rfl, rfl⟩ rfl rfl rfl rfl rfl (by kernel_rfl) Try.func6 (by kernel_rfl)
    (of_decide_eq_true (by kernel_rfl)) (by unfold Func.isWrapper; first | (rw [if_pos (by decide +kernel)]; kernel_rfl) | (rw [if_neg (by decide +kernel)]; exact ⟨rfl, rfl⟩))
    (fun os started H enc _ => nil_lifted os started H enc)

#print axioms replayNil_holds

end Go.Proofs.Ytclokfjcjpigpaa
