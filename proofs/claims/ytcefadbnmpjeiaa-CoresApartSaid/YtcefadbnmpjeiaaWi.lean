/-
  'wish'.
-/
import Derived.Test.YtcefadbnmpjeiaaArgs
namespace Go.Proofs.Ytcefadbnmpjeiaa
open Go.RowKit Go.Maps

set_option maxHeartbeats 1000000 in
theorem wish25_any (x : WishD) (w : World) : Calls Try.prog 25 #[x.val] w fun e w' => e = .returned x.val ∧ Fr (fun _ => False) w w' := by
  obtain ⟨F, r, q, d⟩ := x
  simp only [WishD.val, WishD.cells]
  generalize ((wordM F 0 : Nat) : Int) = f0
  generalize ((wordM F 1 : Nat) : Int) = f1
  generalize ((wordM F 2 : Nat) : Int) = f2
  generalize ((wordM F 3 : Nat) : Int) = f3
  go_enter Try.func25, Try.ntmps25
  go_wp2
  (try simp only [Exit.inBlock, Exit.then])
  refine bodyPost_ret (v := .agg #[.int .u64 f0, .int .u64 f1, .int .u64 f2, .int .u64 f3, .int .i64 r, .int .i64 q, .int .i64 d]) ?_ rfl ⟨rfl, ((Fr.refl _ w).alloc _).alloc _⟩
  rw [results_cell1 rfl]
  go_simp

end Go.Proofs.Ytcefadbnmpjeiaa
