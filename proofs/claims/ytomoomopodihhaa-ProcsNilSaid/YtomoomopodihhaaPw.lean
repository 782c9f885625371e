/-
  ProcsNil, walked.
-/
import Derived.Test.YtomoomopodihhaaPt
import Derived.Test.YtomoomopodihhaaPv
namespace Go.Proofs.Ytomoomopodihhaa
open Go.RowKit Go.Maps

set_option maxRecDepth 20000 in
set_option maxHeartbeats 4000000 in
theorem procsNil13_any (o : OpP) (w : World) : Calls Try.prog 13 #[o.val] w fun e w' => e = .returned (.bool true) ∧ Fr (fun _ => False) w w' := by
  obtain ⟨do_, pid, nn, x⟩ := o
  have C1 := Lib.hid (fun W => spawn37_nil W x)
  obtain ⟨xp, xj, xe, xs, xr, xc, xn, xt, xo⟩ := x
  have HX := Lib.hid (Blk.new w 63 #[.int .i64 do_, .int .i64 pid, .int .i64 nn, .int .i64 xp, .int .i64 xj, .int .i64 xe, .int .i64 xs, .int .i64 xr, xc, .int .i64 xt, .int .i64 xo])
  have HF0 := Lib.hid ((Fr.refl (fun _ => False) w).alloc (.cells #[.int .i64 do_, .int .i64 pid, .int .i64 nn, .int .i64 xp, .int .i64 xj, .int .i64 xe, .int .i64 xs, .int .i64 xr, xc, .int .i64 xt, .int .i64 xo] 63))
  simp only [OpP.val, TaskD.val] at *
  obtain ⟨y3, y4, y5, y6, y7, y8, y9, y10⟩ := bx8 HX.out
  go_enter Try.func13, Try.ntmps13
  go_wp2_with fail
  refine (C1.out _).mono ?_
  rintro e w1 ⟨rfl, hf1⟩
  have HF1 := Lib.hid (HF0.out.then hf1)
  have HX1 := Lib.hid (HX.out.fr hf1 (fun h => h))
  clear y3 y4 y5 y6 y7 y8 y9 y10 hf1
  obtain ⟨y1, _⟩ := bx2 HX1.out
  go_wp2_with fail
  refine (reap39_nil _ pid).mono ?_
  rintro e w2 ⟨rfl, hf2⟩
  unfold zeroT
  simp only [TaskD.val]
  have hfa : Fr (fun _ => False) w2 (w2.alloc (.cells #[.int .i64 0, .int .i64 0, .int .i64 0, .int .i64 0, .int .i64 0, .slice none 0 0, .int .i64 0, .int .i64 0] 61)) := (Fr.refl _ w2).alloc _
  have HX2 := Lib.hid (HX1.out.fr (hf2.then hfa) (fun h => h))
  have HF2 := Lib.hid (HF1.out.then (hf2.then hfa))
  obtain ⟨z0, z1, z2, z3, z4, z5, z6, z7⟩ := tc (Blk.new w2 61 #[.int .i64 0, .int .i64 0, .int .i64 0, .int .i64 0, .int .i64 0, .slice none 0 0, .int .i64 0, .int .i64 0])
  clear y1 hf2 hfa
  go_wp2_with fail
  refine (one38_true _ zeroT (.slice none 0 0) (coresOk_nil _) (coresOk_nil _)).mono ?_
  rintro e w3 ⟨rfl, hf3⟩
  have HX3 := Lib.hid (HX2.out.fr hf3 (fun h => h))
  have HF3 := Lib.hid (HF2.out.then hf3)
  clear hf3 z0 z1 z2 z3 z4 z5 z6 z7
  obtain ⟨y1, _⟩ := bx2 HX3.out
  go_wp2_with fail
  refine (release41_nil _ pid).mono ?_
  rintro e w4 ⟨rfl, hf4⟩
  have HX4 := Lib.hid (HX3.out.fr hf4 (fun h => h))
  have HF4 := Lib.hid (HF3.out.then hf4)
  clear hf4 y1
  obtain ⟨y1, _⟩ := bx2 HX4.out
  go_wp2_with fail
  refine (signal42_nil _ pid).mono ?_
  rintro e w5 ⟨rfl, rfl⟩
  go_wp2_with fail
  refine (exit44_nil _ pid).mono ?_
  rintro e w5 ⟨rfl, hf5⟩
  have HX5 := Lib.hid (HX4.out.fr hf5 (fun h => h))
  have HF5 := Lib.hid (HF4.out.then hf5)
  clear hf5 y1
  obtain ⟨y1, _⟩ := bx2 HX5.out
  go_wp2_with fail
  refine (list36_nil _).mono ?_
  rintro e w6 ⟨rfl, rfl⟩
  go_wp2_with fail
  refine (signalled43_nil _ pid).mono ?_
  rintro e w6 ⟨rfl, rfl⟩
  go_wp2_with fail
  refine (copy45_nil _).mono ?_
  rintro e w6 ⟨rfl, rfl⟩
  go_wp2_with fail
  refine (live33_any _).mono ?_
  rintro e w6 ⟨rfl, hf6⟩
  go_wp2
  go_ret
  exact ⟨rfl, HF5.out.then hf6⟩

end Go.Proofs.Ytomoomopodihhaa
