/-
  Masks: whether two are the same.
-/
import Derived.Test.YtcefadbnmpjeiaaMask
import Derived.ChangeKeysEq
namespace Go.Proofs.Ytcefadbnmpjeiaa
open Go.RowKit Go.Maps

theorem infoU : ((Try.prog.info? 31).map fun i => i.size) = some 1 := by kernel_rfl
theorem cellsU : Try.prog.cellsOf 31 = 1 := by kernel_rfl
theorem plainU : Try.prog.plainKey 31 = true := by kernel_rfl

theorem eq_words (a0 a1 a2 a3 b0 b1 b2 b3 : Int) (t : TypeId) (ht : Try.prog.underlying t = some (.array 4 31)) (w : World) :
    (Op.equalIn 10000 t (.agg #[.int .u64 a0, .int .u64 a1, .int .u64 a2, .int .u64 a3]) (.agg #[.int .u64 b0, .int .u64 b1, .int .u64 b2, .int .u64 b3])).run Try.prog w = .ok (a0 == b0 && (a1 == b1 && (a2 == b2 && a3 == b3))) w := by
  obtain ⟨i, hi, _⟩ := Option.map_eq_some_iff.1 infoU
  have hp : ∀ (xs : Array Value) (j : Nat) (v : Value) (_ : xs[j]? = some v) (W : World), (part 31 xs (j * 1)).run Try.prog W = .ok v W := fun xs j v hv W => run_part_plain W plainU (by rw [Nat.mul_one]; exact hv)
  have he : ∀ (a b : Int) (W : World), (Op.equalIn 9999 31 (.int .u64 a) (.int .u64 b)).run Try.prog W = .ok (a == b) W := fun a b W => run_equalIn_int W 9998 31 .u64 .u64 a b Try.underlying31
  rw [run_equalIn_array w 9999 _ _ ht hi, cellsU, show List.range 4 = [0, 1, 2, 3] from rfl]
  simp only [Op.eqItems, Sem.run_bind]
  rw [hp _ 0 (.int .u64 a0) rfl, Result.andThen_ok, hp _ 0 (.int .u64 b0) rfl, Result.andThen_ok, he, Result.andThen_ok]
  cases a0 == b0
  · rfl
  simp only [Bool.not_true, Bool.false_eq_true, if_false, Sem.run_bind]
  rw [hp _ 1 (.int .u64 a1) rfl, Result.andThen_ok, hp _ 1 (.int .u64 b1) rfl, Result.andThen_ok, he, Result.andThen_ok]
  cases a1 == b1
  · rfl
  simp only [Bool.not_true, Bool.false_eq_true, if_false, Sem.run_bind]
  rw [hp _ 2 (.int .u64 a2) rfl, Result.andThen_ok, hp _ 2 (.int .u64 b2) rfl, Result.andThen_ok, he, Result.andThen_ok]
  cases a2 == b2
  · rfl
  simp only [Bool.not_true, Bool.false_eq_true, if_false, Sem.run_bind]
  rw [hp _ 3 (.int .u64 a3) rfl, Result.andThen_ok, hp _ 3 (.int .u64 b3) rfl, Result.andThen_ok, he, Result.andThen_ok]
  cases a3 == b3
  · rfl
  rfl

theorem mask_ext {M M' : Nat} (h : M < 2 ^ 256) (h' : M' < 2 ^ 256) (hw : ∀ k, k < 4 → wordM M k = wordM M' k) : M = M' := by
  refine Nat.eq_of_testBit_eq fun i => ?_
  by_cases hi : i < 256
  · have h1 := hw (i / 64) (by omega)
    have e1 := wordM_bit M (i / 64) (i % 64) (by omega)
    have e2 := wordM_bit M' (i / 64) (i % 64) (by omega)
    rw [h1, e2] at e1
    have hi2 : 64 * (i / 64) + i % 64 = i := by omega
    rw [hi2] at e1
    exact e1.symm
  · rw [Nat.testBit_lt_two_pow (Nat.lt_of_lt_of_le h (Nat.pow_le_pow_right (by decide) (by omega))), Nat.testBit_lt_two_pow (Nat.lt_of_lt_of_le h' (Nat.pow_le_pow_right (by decide) (by omega)))]

theorem words_eq {M M' : Nat} (h : M < 2 ^ 256) (h' : M' < 2 ^ 256) : (((wordM M 0 : Nat) : Int) == (wordM M' 0 : Nat) && (((wordM M 1 : Nat) : Int) == (wordM M' 1 : Nat) && (((wordM M 2 : Nat) : Int) == (wordM M' 2 : Nat) && ((wordM M 3 : Nat) : Int) == (wordM M' 3 : Nat)))) = decide (M = M') := by
  by_cases e : M = M'
  · subst e; simp
  · rw [decide_eq_false e, ← Bool.not_eq_true]
    intro hb
    simp only [Bool.and_eq_true, beq_iff_eq] at hb
    refine e (mask_ext h h' fun k hk => ?_)
    match k, hk with
    | 0, _ => omega
    | 1, _ => omega
    | 2, _ => omega
    | 3, _ => omega

theorem eq_masks {M M' : Nat} (h : M < 2 ^ 256) (h' : M' < 2 ^ 256) (t : TypeId) (ht : Try.prog.underlying t = some (.array 4 31)) (w : World) :
    (Op.equalIn 10000 t (valM M) (valM M')).run Try.prog w = .ok (decide (M = M')) w := by
  rw [← words_eq h h']
  exact eq_words _ _ _ _ _ _ _ _ t ht w

end Go.Proofs.Ytcefadbnmpjeiaa
