/-
  A table that is none.
-/
import Derived.Test.YtomoomopodihhaaPp
namespace Go.Proofs.Ytomoomopodihhaa
open Go.RowKit Go.Maps

set_option maxHeartbeats 400000 in
theorem find58_nil (w : World) (pid : Int) (f : Value) : Calls Try.prog 58 #[.pointer none, .int .i64 pid, f] w fun e w' => e = .returned (.tuple #[.pointer none, .int .i64 1]) ∧ w = w' := by
  go_enter Try.func58, Try.ntmps58
  go_wp2
  go_ret2
  exact ⟨rfl, rfl⟩

set_option maxHeartbeats 400000 in
theorem signalled43_nil (w : World) (pid : Int) : Calls Try.prog 43 #[.pointer none, .int .i64 pid] w fun e w' => e = .returned (.int .i64 0) ∧ w = w' := by
  go_enter Try.func43, Try.ntmps43
  go_wp2
  go_ret
  exact ⟨rfl, rfl⟩

set_option maxHeartbeats 400000 in
theorem copy45_nil (w : World) : Calls Try.prog 45 #[.pointer none] w fun e w' => e = .returned (.pointer none) ∧ w = w' := by
  go_enter Try.func45, Try.ntmps45
  go_wp2
  go_ret
  exact ⟨rfl, rfl⟩

set_option maxHeartbeats 400000 in
theorem release41_nil (w : World) (pid : Int) : Calls Try.prog 41 #[.pointer none, .int .i64 pid] w fun e w' => e = .returned (.int .i64 1) ∧ Fr (fun _ => False) w w' := by
  have HI := Lib.hid (is59_any 0 w)
  have HFD := Lib.hid (fun W f => find58_nil W pid f)
  have HF := Lib.hid ((Fr.refl (fun _ => False) w).alloc (.cells #[.int .i64 0] 3))
  go_enter Try.func41, Try.ntmps41
  go_wp2_with fail
  refine HI.out.mono ?_
  rintro e w1 ⟨rfl, rfl⟩
  go_wp2_with fail
  refine (HFD.out _ _).mono ?_
  rintro e w2 ⟨rfl, rfl⟩
  go_wp2
  go_ret
  exact ⟨rfl, HF.out⟩

set_option maxHeartbeats 400000 in
theorem exit44_nil (w : World) (pid : Int) : Calls Try.prog 44 #[.pointer none, .int .i64 pid, .int .i64 0] w fun e w' => e = .returned (.int .i64 1) ∧ Fr (fun _ => False) w w' := by
  have HI := Lib.hid (is59_any 1 w)
  have HFD := Lib.hid (fun W f => find58_nil W pid f)
  have HF := Lib.hid ((Fr.refl (fun _ => False) w).alloc (.cells #[.int .i64 1] 3))
  go_enter Try.func44, Try.ntmps44
  go_wp2_with fail
  refine HI.out.mono ?_
  rintro e w1 ⟨rfl, rfl⟩
  go_wp2_with fail
  refine (HFD.out _ _).mono ?_
  rintro e w2 ⟨rfl, rfl⟩
  go_wp2
  go_ret
  exact ⟨rfl, HF.out⟩

set_option maxHeartbeats 400000 in
theorem signal42_nil (w : World) (pid : Int) : Calls Try.prog 42 #[.pointer none, .int .i64 pid, .int .i64 9] w fun e w' => e = .returned (.int .i64 1) ∧ w = w' := by
  have HFD := Lib.hid (fun W f => find58_nil W pid f)
  go_enter Try.func42, Try.ntmps42
  go_wp2_with fail
  refine (HFD.out _ _).mono ?_
  rintro e w2 ⟨rfl, rfl⟩
  go_wp2
  go_ret
  exact ⟨rfl, rfl⟩

set_option maxHeartbeats 400000 in
theorem spawn37_nil (w : World) (x : TaskD) : Calls Try.prog 37 #[.pointer none, x.val] w fun e w' => e = .returned (.tuple #[.int .i64 0, .int .i64 1]) ∧ Fr (fun _ => False) w w' := by
  obtain ⟨pid, job, epoch, step, rank, cv, ns, state, code⟩ := x
  have HF := Lib.hid ((Fr.refl (fun _ => False) w).alloc (.cells #[.int .i64 pid, .int .i64 job, .int .i64 epoch, .int .i64 step, .int .i64 rank, cv, .int .i64 state, .int .i64 code] 61))
  simp only [TaskD.val]
  go_enter Try.func37, Try.ntmps37
  go_wp2
  go_ret2
  exact ⟨rfl, HF.out⟩

set_option maxRecDepth 20000 in
set_option maxHeartbeats 2000000 in
theorem reap39_nil (w : World) (pid : Int) : Calls Try.prog 39 #[.pointer none, .int .i64 pid] w fun e w' => e = .returned (.tuple #[zeroT.val, .int .i64 1]) ∧ Fr (fun _ => False) w w' := by
  have hf0 := (Fr.refl (fun _ => False) w).alloc (.cells #[.int .i64 0, .int .i64 0, .int .i64 0, .int .i64 0, .int .i64 0, .slice none 0 0, .int .i64 0, .int .i64 0] 61)
  have hf1 := hf0.alloc (.cells #[.int .i64 2] 3)
  have hB := (Blk.new w 61 #[.int .i64 0, .int .i64 0, .int .i64 0, .int .i64 0, .int .i64 0, .slice none 0 0, .int .i64 0, .int .i64 0]).alloc (.cells #[.int .i64 2] 3)
  have HI := Lib.hid (is59_any 2 (w.alloc (.cells #[.int .i64 0, .int .i64 0, .int .i64 0, .int .i64 0, .int .i64 0, .slice none 0 0, .int .i64 0, .int .i64 0] 61)))
  have HFD := Lib.hid (fun W f => find58_nil W pid f)
  have HB := Lib.hid hB
  have HE := Lib.hid hf1
  clear hf0 hf1 hB
  go_enter Try.func39, Try.ntmps39
  go_wp2_with fail
  refine HI.out.mono ?_
  rintro e w1 ⟨rfl, rfl⟩
  go_wp2_with fail
  refine (HFD.out _ _).mono ?_
  rintro e w2 ⟨rfl, rfl⟩
  obtain ⟨y0, y1, y2, y3, y4, y5, y6, y7⟩ := tc HB.out
  have fz := fun i => HB.out.frozen i
  go_wp2_with fail
  (try simp only [Exit.inBlock, Exit.then])
  refine bodyPost_ret (v := .tuple #[zeroT.val, .int .i64 1]) ?_ rfl ⟨rfl, HE.out⟩
  rw [results_cell_tmp rfl]
  unfold zeroT TaskD.val
  go_simp

end Go.Proofs.Ytomoomopodihhaa
