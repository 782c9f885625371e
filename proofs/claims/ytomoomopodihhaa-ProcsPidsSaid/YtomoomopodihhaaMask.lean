/-
  Masks: four words of 64 bits, as one number; core, Has, with.
-/
import Derived.Test.YtomoomopodihhaaRow
import Derived.Test.YtomoomopodihhaaLater
import Derived.WalkArith
import Derived.WalkSmall
import Derived.PlainAid
import Derived.Deep.QuietTactic
import Derived.BigQuiet
namespace Go.Proofs.Ytomoomopodihhaa
open Go.RowKit Go.Maps

def wf64 (n : Int) : Prop := -9223372036854775808 ≤ n ∧ n ≤ 9223372036854775807

/-- The k-th word of a mask. -/
def wordM (M k : Nat) : Nat := (M >>> (64 * k)) % 2 ^ 64
def cellsM (M : Nat) : Array Value := #[.int .u64 (wordM M 0 : Nat), .int .u64 (wordM M 1 : Nat), .int .u64 (wordM M 2 : Nat), .int .u64 (wordM M 3 : Nat)]
def valM (M : Nat) : Value := .agg (cellsM M)

theorem wordM_lt (M k : Nat) : wordM M k < 18446744073709551616 := Nat.mod_lt _ (by decide)
theorem wordM_bit (M k i : Nat) (hi : i < 64) : (wordM M k).testBit i = M.testBit (64 * k + i) := by
  unfold wordM
  rw [Nat.testBit_mod_two_pow, Nat.testBit_shiftRight]
  simp [hi]

theorem cellsM_get (M k : Nat) (hk : k < 4) : (cellsM M)[k]? = some (.int .u64 (wordM M k : Nat)) := by
  match k, hk with
  | 0, _ => rfl
  | 1, _ => rfl
  | 2, _ => rfl
  | 3, _ => rfl

theorem bit_of_div (w r : Nat) : (decide ((w : Int) / 2 ^ r % 2 = 1)) = w.testBit r := by
  rw [Nat.testBit_eq_decide_div_mod_eq]
  congr 1
  have : ((w : Int) / 2 ^ r % 2) = ((w / 2 ^ r % 2 : Nat) : Int) := by simp
  rw [this]
  simp only [eq_iff_iff]
  omega

theorem has_eq (M c : Nat) : (bits BinOp.and IntKind.u64 (((wordM M (c / 64) : Nat) : Int) / 2 ^ (c % 64)) 1 == 1) = M.testBit c := by
  have hw := wordM_lt M (c / 64)
  have h0 : (0 : Int) ≤ ((wordM M (c / 64) : Nat) : Int) / 2 ^ (c % 64) := Int.ediv_nonneg (by omega) (Int.pow_nonneg (by decide))
  have h1 : ((wordM M (c / 64) : Nat) : Int) / 2 ^ (c % 64) ≤ 18446744073709551615 := by
    refine Int.le_trans (Int.ediv_le_self _ (by omega)) (by omega)
  rw [and_one_u64 _ h0 h1, show M.testBit c = (wordM M (c / 64)).testBit (c % 64) by rw [wordM_bit _ _ _ (by omega)]; congr 1; omega, ← bit_of_div]
  by_cases h : ((wordM M (c / 64) : Nat) : Int) / 2 ^ (c % 64) % 2 = 1
  · rw [h]; rfl
  · rw [decide_eq_false h, beq_eq_false_iff_ne]; exact h

theorem or_word (M c : Nat) (hc : c < 256) : bits BinOp.or IntKind.u64 ((wordM M (c / 64) : Nat) : Int) (IntKind.u64.wrap (2 ^ (c % 64))) = ((wordM (M ||| 2 ^ c) (c / 64) : Nat) : Int) := by
  have hp : 2 ^ (c % 64) < 18446744073709551616 := Nat.lt_of_lt_of_le (Nat.pow_lt_pow_right (by decide) (Nat.mod_lt _ (by decide))) (by decide)
  have e1 : ((2 : Int) ^ (c % 64)) = ((2 ^ (c % 64) : Nat) : Int) := by simp
  rw [e1, IntWalk.u64_in _ ⟨Int.natCast_nonneg _, by omega⟩, bits_or_u64_nat _ _ (wordM_lt _ _) hp]
  congr 1
  refine Nat.eq_of_testBit_eq fun i => ?_
  by_cases hi : i < 64
  · rw [Nat.testBit_or, wordM_bit _ _ _ hi, wordM_bit _ _ _ hi, Nat.testBit_or, Nat.testBit_two_pow, Nat.testBit_two_pow]
    congr 2
    simp only [eq_iff_iff]
    omega
  · have h1 : (wordM M (c / 64)).testBit i = false := Nat.testBit_lt_two_pow (Nat.lt_of_lt_of_le (wordM_lt _ _) (Nat.pow_le_pow_right (n := 2) (i := 64) (by decide) (by omega)))
    have h2 : (wordM (M ||| 2 ^ c) (c / 64)).testBit i = false := Nat.testBit_lt_two_pow (Nat.lt_of_lt_of_le (wordM_lt _ _) (Nat.pow_le_pow_right (n := 2) (i := 64) (by decide) (by omega)))
    rw [Nat.testBit_or, h1, h2, Nat.testBit_two_pow, decide_eq_false (by omega)]
    rfl

theorem word_ext {a b : Nat} (ha : a < 18446744073709551616) (hb : b < 18446744073709551616) (h : ∀ i, i < 64 → a.testBit i = b.testBit i) : a = b := by
  refine Nat.eq_of_testBit_eq fun i => ?_
  by_cases hi : i < 64
  · exact h i hi
  · rw [Nat.testBit_lt_two_pow (Nat.lt_of_lt_of_le ha (Nat.pow_le_pow_right (n := 2) (i := 64) (by decide) (by omega))), Nat.testBit_lt_two_pow (Nat.lt_of_lt_of_le hb (Nat.pow_le_pow_right (n := 2) (i := 64) (by decide) (by omega)))]

theorem or_other (M c j : Nat) (hj : j ≠ c / 64) : wordM (M ||| 2 ^ c) j = wordM M j := by
  refine word_ext (wordM_lt _ _) (wordM_lt _ _) fun i hi => ?_
  rw [wordM_bit _ _ _ hi, wordM_bit _ _ _ hi, Nat.testBit_or, Nat.testBit_two_pow, decide_eq_false (by omega), Bool.or_false]

theorem cells_or (M c : Nat) (hc : c < 256) : (cellsM M).setIfInBounds (c / 64) (.int .u64 ((wordM (M ||| 2 ^ c) (c / 64) : Nat) : Int)) = cellsM (M ||| 2 ^ c) := by
  have h : c / 64 < 4 := by omega
  refine Array.ext_getElem? fun i => ?_
  by_cases hi : i < 4
  · rw [cellsM_get _ _ hi, Array.getElem?_setIfInBounds]
    by_cases he : c / 64 = i
    · rw [if_pos he, if_pos (show c / 64 < (cellsM M).size from h), he]
    · rw [if_neg he, cellsM_get _ _ hi, or_other _ _ _ (Ne.symm he)]
  · rw [Array.getElem?_eq_none (by simp [cellsM]; omega), Array.getElem?_eq_none (by simp [cellsM]; omega)]

theorem results_cell1 {fn : Func} {p : Tmp} {ty : TypeId} (h : fn.results = #[.cell p ty]) (tmps : Array Value) (P : Program) (w : World) :
    (results fn tmps).run P w = ((asAddr (tmps.getD p undef)).run P w).andThen fun a w₁ => (loadVar ty a).run P w₁ := by
  simp only [results, h]
  simp [Sem.run_bind, Result.andThen]

def hasM (M : Nat) (c : Int) : Bool := decide (0 ≤ c ∧ c < 256) && M.testBit c.toNat

theorem core_any (c : Int) (w : World) : Calls Try.prog 76 #[.int .i64 c] w fun e w' => e = .returned (.bool (decide (0 ≤ c ∧ c < 256))) ∧ w = w' := by
  go_enter Try.func76, Try.ntmps76
  go_wp2
  all_goals go_ret
  all_goals exact ⟨by congr 2; simp; omega, rfl⟩

set_option maxHeartbeats 1000000 in
theorem has_in (M : Nat) (c : Nat) (hc : c < 256) (w : World) : Calls Try.prog 77 #[valM M, .int .i64 c] w fun e w' => e = .returned (.bool (M.testBit c)) ∧ Fr (fun _ => False) w w' := by
  have h59 := fun W => core_any (c : Int) W
  rw [show decide (0 ≤ (c : Int) ∧ (c : Int) < 256) = true by simp; omega] at h59
  have B := Blk.new w 103 (cellsM M)
  have hq := cellsM_get M (c / 64) (by omega)
  have c0 : (w.alloc (.cells (cellsM M) 103)).cell? ⟨w.heap.size, c / 64, none⟩ = some (.int .u64 (wordM M (c / 64) : Nat)) := (B.cell _).trans hq
  have H59 := Lib.hid h59
  clear h59 B hq
  unfold valM
  have hs : (cellsM M).size = 4 := rfl
  go_enter Try.func77, Try.ntmps77
  go_wp2_with (go_at_call 76; refine (H59.out _).mono ?_; rintro e w1 ⟨rfl, rfl⟩)
  go_ret
  refine ⟨?_, (Fr.refl _ w).alloc _⟩
  rw [← has_eq M c]
  rfl

theorem has_any (M : Nat) (c : Int) (w : World) : Calls Try.prog 77 #[valM M, .int .i64 c] w fun e w' => e = .returned (.bool (hasM M c)) ∧ Fr (fun _ => False) w w' := by
  by_cases h : 0 ≤ c ∧ c < 256
  · obtain ⟨n, rfl⟩ : ∃ n : Nat, c = (n : Int) := ⟨c.toNat, by omega⟩
    have e : hasM M (n : Int) = M.testBit n := by unfold hasM; rw [decide_eq_true h]; simp
    rw [e]
    exact has_in M n (by omega) w
  · have e : hasM M c = false := by unfold hasM; rw [decide_eq_false h]; rfl
    rw [e]
    have h59 := fun W => core_any c W
    rw [decide_eq_false h] at h59
    have H59 := Lib.hid h59
    clear h59 h e
    unfold valM cellsM
    go_enter Try.func77, Try.ntmps77
    go_wp2_with (go_at_call 76; refine (H59.out _).mono ?_; rintro e w1 ⟨rfl, rfl⟩)
    go_ret
    exact ⟨rfl, (Fr.refl _ w).alloc _⟩

set_option maxHeartbeats 1000000 in
theorem with_any (M c : Nat) (hc : c < 256) (w : World) : Calls Try.prog 78 #[valM M, .int .i64 c] w fun e w' => e = .returned (valM (M ||| 2 ^ c)) ∧ Fr (fun _ => False) w w' := by
  have B := Blk.new w 103 (cellsM M)
  have hq := cellsM_get M (c / 64) (by omega)
  have c0 : (w.alloc (.cells (cellsM M) 103)).cell? ⟨w.heap.size, c / 64, none⟩ = some (.int .u64 (wordM M (c / 64) : Nat)) := (B.cell _).trans hq
  have B1 := B.alloc (.cells #[.int .u64 0, .int .u64 0, .int .u64 0, .int .u64 0] 103)
  have c1 := (B1.cell (c / 64)).trans hq
  have l1 := Later.cell c1
  have HB := Lib.hid B1
  have Z1 := Blk.new (w.alloc (.cells (cellsM M) 103)) 103 #[.int .u64 0, .int .u64 0, .int .u64 0, .int .u64 0]
  rw [World.size_alloc] at Z1
  have HZ := Lib.hid Z1
  clear Z1 B B1 hq c0 c1
  unfold valM
  have hs : (cellsM M).size = 4 := rfl
  go_enter Try.func78, Try.ntmps78
  go_wp2
  refine wp_region_later_tail ((w.alloc (.cells (cellsM M) 103)).alloc (.cells #[.int .u64 0, .int .u64 0, .int .u64 0, .int .u64 0] 103)) 9 (by kernel_rfl) (by kernel_rfl) (Fr.refl _ _) ?_
  simp only [List.take_succ_cons, List.take_zero, List.drop_succ_cons, List.drop_zero]
  repeat (go_big_quiet_step (fail))
  refine wpQuiet_nil ?_
  rintro _ ⟨d, rfl⟩
  have hB := HB.out.fr d.fr (fun h => h)
  have hZ := HZ.out.fr d.fr (fun h => h)
  have hq := cellsM_get M (c / 64) (by omega)
  have c2 := (hB.cell (c / 64)).trans hq
  have c3 := hB.frozen (c / 64)
  have hw := or_word M c hc
  have hB2 := hB.set_ (c / 64) (.int .u64 (bits BinOp.or IntKind.u64 ((wordM M (c / 64) : Nat) : Int) (IntKind.u64.wrap (2 ^ (c % 64)))))
  have hS : (cellsM M).setIfInBounds (c / 64) (.int .u64 (bits BinOp.or IntKind.u64 ((wordM M (c / 64) : Nat) : Int) (IntKind.u64.wrap (2 ^ (c % 64))))) = cellsM (M ||| 2 ^ c) := by rw [hw, cells_or M c hc]
  rw [hS] at hB2
  have hZ2 := hZ.far (p := ⟨w.heap.size, c / 64, none⟩) (by simp) (.int .u64 (bits BinOp.or IntKind.u64 ((wordM M (c / 64) : Nat) : Int) (IntKind.u64.wrap (2 ^ (c % 64)))))
  have hF : Fr (fun _ => False) w (d.val.setCell ⟨w.heap.size, c / 64, none⟩ (.int .u64 (bits BinOp.or IntKind.u64 ((wordM M (c / 64) : Nat) : Int) (IntKind.u64.wrap (2 ^ (c % 64)))))) := ((((Fr.refl _ w).alloc _).alloc _).then d.fr).setCell (Or.inr (Nat.le_refl _)) _
  have b0 := hB2.cell 0
  have b1 := hB2.cell 1
  have b2 := hB2.cell 2
  have b3 := hB2.cell 3
  rw [cellsM_get _ _ (by decide)] at b0 b1 b2 b3
  have z0 := fun i => hZ2.cell i
  have z1 := fun i => hZ2.frozen i
  have HF := Lib.hid hF
  clear hF hB hZ hB2 hZ2 hw hS hq l1
  go_wp2
  (try simp only [Exit.inBlock, Exit.then])
  refine bodyPost_ret (v := valM (M ||| 2 ^ c)) ?_ rfl ⟨rfl, ?_⟩
  · rw [results_cell1 rfl]
    unfold valM cellsM
    go_simp
  · have hz : w.heap.size ≤ w.heap.size + 1 := Nat.le_succ _
    exact ((((HF.out.setCell (Or.inr hz) _).setCell (Or.inr hz) _).setCell (Or.inr hz) _).setCell (Or.inr hz) _)

end Go.Proofs.Ytomoomopodihhaa
