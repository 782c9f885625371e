/-
  acct: sums and products that stop at the greatest number; the program's and the reference's.
-/
import Derived.Test.YtomoomopodihhaaIMap
import Derived.Test.YtomoomopodihhaaRows
import Derived.WalkKit
import Derived.WalkSpells
import Derived.WalkLawsBesides
import Derived.BigQuiet
import Derived.Lib.Hide
import Derived.Deep.QuietTactic
namespace Go.Proofs.Ytomoomopodihhaa
open Go.RowKit

def addS (a b : Int) : Int := min (max a 0 + max b 0) 9223372036854775807
def timesS (a b : Int) : Int := min (max a 0 * max b 0) 9223372036854775807

theorem most46_any (w : World) : Calls Try.prog 46 #[] w fun e w' => e = .returned (.int .i64 9223372036854775807) ∧ w = w' := by
  go_enter Try.func46, Try.ntmps46
  go_wp2
  go_ret
  exact ⟨rfl, rfl⟩

theorem wrap_id {n : Int} (h1 : -9223372036854775808 ≤ n) (h2 : n ≤ 9223372036854775807) : IntKind.i64.wrap n = n := by
  unfold IntKind.wrap
  simp [IntKind.bits, IntKind.signed]
  omega

theorem wrap_over {n : Int} (h1 : 9223372036854775807 < n) (h2 : n ≤ 18446744073709551614) : IntKind.i64.wrap n = n - 18446744073709551616 := by
  unfold IntKind.wrap
  simp [IntKind.bits, IntKind.signed]
  omega

set_option maxHeartbeats 1000000 in
theorem add17_any (a b : Int) (ha : wf64 a) (hb : wf64 b) (w : World) : Calls Try.prog 17 #[.int .i64 a, .int .i64 b] w fun e w' => e = .returned (.int .i64 (addS a b)) ∧ w = w' := by
  unfold wf64 at ha hb
  by_cases hov : a ≤ 0 ∨ b ≤ 0 ∨ a + b ≤ 9223372036854775807
  · have hw : 0 ≤ a → 0 ≤ b → IntKind.i64.wrap (a + b) = a + b := fun h1 h2 => wrap_id (by omega) (by omega)
    have HW := Lib.hid hw
    clear hw
    go_enter Try.func17, Try.ntmps17
    go_wp2
    all_goals go_ret
    all_goals exact ⟨congrArg Ending.returned (congrArg (Value.int .i64) (by unfold addS; omega)), rfl⟩
  · have hw := wrap_over (n := a + b) (by omega) (by omega)
    have hc : IntKind.i64.wrap ((if a < 0 then 0 else a) + (if b < 0 then 0 else b)) = a + b - 18446744073709551616 := by
      rw [if_neg (by omega), if_neg (by omega)]; exact hw
    go_enter Try.func17, Try.ntmps17
    go_wp2
    all_goals go_ret
    all_goals exact ⟨congrArg Ending.returned (congrArg (Value.int .i64) (by unfold addS; omega)), rfl⟩

set_option maxHeartbeats 1000000 in
theorem add18_any (a b : Int) (ha : wf64 a) (hb : wf64 b) (w : World) : Calls Try.prog 18 #[.int .i64 a, .int .i64 b] w fun e w' => e = .returned (.int .i64 (addS a b)) ∧ w = w' := by
  unfold wf64 at ha hb
  go_enter Try.func18, Try.ntmps18
  go_wp2_with (go_at_call 46; refine (most46_any _).mono ?_; rintro e w1 ⟨rfl, rfl⟩)
  all_goals go_ret
  all_goals exact ⟨congrArg Ending.returned (congrArg (Value.int .i64) (by unfold addS; omega)), rfl⟩

theorem mul_bound {a b : Int} (ha : 0 < a) (hb : b ≤ 9223372036854775807 / a) : a * b ≤ 9223372036854775807 := by
  have h1 := Int.mul_le_mul_of_nonneg_left hb (Int.le_of_lt ha)
  have h2 := Int.mul_ediv_self_le (x := 9223372036854775807) (k := a) (by omega)
  omega

theorem mul_over {a b : Int} (ha : 0 < a) (hb : ¬ b ≤ 9223372036854775807 / a) : 9223372036854775807 < a * b := by
  have h1 := Int.lt_mul_ediv_self_add (x := 9223372036854775807) (k := a) ha
  have h2 : (9223372036854775807 / a + 1) ≤ b := by omega
  have h3 := Int.mul_le_mul_of_nonneg_left h2 (Int.le_of_lt ha)
  rw [Int.mul_add, Int.mul_one] at h3
  omega

theorem timesS_l {a b : Int} (h : a ≤ 0) : timesS a b = 0 := by
  unfold timesS; rw [Int.max_eq_right h, Int.zero_mul]; rfl
theorem timesS_r {a b : Int} (h : b ≤ 0) : timesS a b = 0 := by
  unfold timesS; rw [Int.max_eq_right h, Int.mul_zero]; rfl
theorem timesS_in {a b : Int} (ha : 0 < a) (hb : 0 < b) (h : b ≤ 9223372036854775807 / a) : timesS a b = a * b := by
  have := mul_bound ha h
  unfold timesS; rw [Int.max_eq_left (by omega), Int.max_eq_left (by omega)]; omega
theorem timesS_over {a b : Int} (ha : 0 < a) (hb : 0 < b) (h : ¬ b ≤ 9223372036854775807 / a) : timesS a b = 9223372036854775807 := by
  have := mul_over ha h
  unfold timesS; rw [Int.max_eq_left (by omega), Int.max_eq_left (by omega)]; omega
theorem wrap64_mul {a b : Int} (ha : 0 < a) (hb : 0 < b) (h : b ≤ 9223372036854775807 / a) : wrap64 (a * b) = a * b := by
  have h1 := mul_bound ha h
  have h2 := Int.mul_pos ha hb
  unfold wrap64; omega

set_option maxHeartbeats 1000000 in
theorem times19_any (a b : Int) (ha : wf64 a) (hb : wf64 b) (w : World) : Calls Try.prog 19 #[.int .i64 a, .int .i64 b] w fun e w' => e = .returned (.int .i64 (timesS a b)) ∧ w = w' := by
  unfold wf64 at ha hb
  rcases (by omega : a < 0 ∨ a = 0 ∨ 0 < a) with h1 | rfl | h1
  · rw [timesS_l (by omega)]
    go_enter Try.func19, Try.ntmps19
    go_wp2
    all_goals go_ret
    all_goals exact ⟨rfl, rfl⟩
  · rw [timesS_l (by omega)]
    go_enter Try.func19, Try.ntmps19
    go_wp2
    all_goals go_ret
    all_goals exact ⟨rfl, rfl⟩
  · have hq : 0 ≤ 9223372036854775807 / a := Int.ediv_nonneg (by omega) (by omega)
    rcases (by omega : b < 0 ∨ b = 0 ∨ 0 < b) with h2 | rfl | h2
    · rw [timesS_r (by omega)]
      go_enter Try.func19, Try.ntmps19
      go_wp2
      all_goals go_ret
      all_goals exact ⟨rfl, rfl⟩
    · rw [timesS_r (by omega)]
      go_enter Try.func19, Try.ntmps19
      go_wp2
      all_goals go_ret
      all_goals exact ⟨rfl, rfl⟩
    · by_cases h3 : b ≤ 9223372036854775807 / a
      · rw [timesS_in h1 h2 h3]
        have hw := wrap64_mul h1 h2 h3
        have HW := Lib.hid hw
        clear hw
        go_enter Try.func19, Try.ntmps19
        go_wp2
        all_goals go_ret
        all_goals exact ⟨congrArg Ending.returned (congrArg (Value.int .i64) HW.out), rfl⟩
      · rw [timesS_over h1 h2 h3]
        go_enter Try.func19, Try.ntmps19
        go_wp2
        all_goals go_ret
        all_goals exact ⟨rfl, rfl⟩

set_option maxHeartbeats 1000000 in
theorem times20_any (a b : Int) (ha : wf64 a) (hb : wf64 b) (w : World) : Calls Try.prog 20 #[.int .i64 a, .int .i64 b] w fun e w' => e = .returned (.int .i64 (timesS a b)) ∧ w = w' := by
  unfold wf64 at ha hb
  rcases (by omega : a < 0 ∨ a = 0 ∨ 0 < a) with h1 | rfl | h1
  · rw [timesS_l (by omega)]
    go_enter Try.func20, Try.ntmps20
    go_wp2_with (go_at_call 46; refine (most46_any _).mono ?_; rintro e w1 ⟨rfl, rfl⟩)
    all_goals go_ret
    all_goals exact ⟨rfl, rfl⟩
  · rw [timesS_l (by omega)]
    go_enter Try.func20, Try.ntmps20
    go_wp2_with (go_at_call 46; refine (most46_any _).mono ?_; rintro e w1 ⟨rfl, rfl⟩)
    all_goals go_ret
    all_goals exact ⟨rfl, rfl⟩
  · have hq : 0 ≤ 9223372036854775807 / a := Int.ediv_nonneg (by omega) (by omega)
    rcases (by omega : b < 0 ∨ b = 0 ∨ 0 < b) with h2 | rfl | h2
    · rw [timesS_r (by omega)]
      go_enter Try.func20, Try.ntmps20
      go_wp2_with (go_at_call 46; refine (most46_any _).mono ?_; rintro e w1 ⟨rfl, rfl⟩)
      all_goals go_ret
      all_goals exact ⟨rfl, rfl⟩
    · rw [timesS_r (by omega)]
      go_enter Try.func20, Try.ntmps20
      go_wp2_with (go_at_call 46; refine (most46_any _).mono ?_; rintro e w1 ⟨rfl, rfl⟩)
      all_goals go_ret
      all_goals exact ⟨rfl, rfl⟩
    · by_cases h3 : b ≤ 9223372036854775807 / a
      · rw [timesS_in h1 h2 h3]
        have hw := wrap64_mul h1 h2 h3
        have HW := Lib.hid hw
        clear hw
        go_enter Try.func20, Try.ntmps20
        go_wp2_with (go_at_call 46; refine (most46_any _).mono ?_; rintro e w1 ⟨rfl, rfl⟩)
        all_goals go_ret
        all_goals exact ⟨congrArg Ending.returned (congrArg (Value.int .i64) HW.out), rfl⟩
      · rw [timesS_over h1 h2 h3]
        go_enter Try.func20, Try.ntmps20
        go_wp2_with (go_at_call 46; refine (most46_any _).mono ?_; rintro e w1 ⟨rfl, rfl⟩)
        all_goals go_ret
        all_goals exact ⟨rfl, rfl⟩

end Go.Proofs.Ytomoomopodihhaa
