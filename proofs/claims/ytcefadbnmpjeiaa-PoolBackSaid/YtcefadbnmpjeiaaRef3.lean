/-
  The reference's masks: in, Has, Make.
-/
import Derived.Test.YtcefadbnmpjeiaaMaskOf
namespace Go.Proofs.Ytcefadbnmpjeiaa
open Go.RowKit Go.Maps

theorem any_step {L : List Int} {x : Int} {k : Nat} (hk : k < L.length) (h : (L.take k).any (fun y => y == x) = false) (hn : ((L[k]'hk) == x) = false) : (L.take (k + 1)).any (fun y => y == x) = false := by
  rw [List.take_succ_eq_append_getElem hk, List.any_append, h, List.any_cons, hn]
  rfl

set_option maxHeartbeats 1000000 in
theorem in_any (w : World) (v : Value) (L : List Int) (h : IntsV w v L) (hl : L.length ≤ maxLen) (x : Int) (res : Bool) (hres : Hid (res = L.any fun y => y == x)) :
    Calls Try.prog 79 #[v, .int .i64 x] w fun e w' => e = .returned (.bool res) ∧ w = w' := by
  unfold maxLen at hl
  have HV := Lib.hid h
  obtain ⟨A, cap, rfl, _⟩ := h
  go_enter Try.func79, Try.ntmps79
  go_wp2
  go_loopw [5] (fun i wr => ∃ k : Nat, k ≤ L.length ∧ i = .int .i64 k ∧ Hid ((L.take k).any (fun y => y == x) = false) ∧ w = wr) (fun i _ => L.length - (intOf i).toNat)
  case atStart => exact ⟨0, Nat.zero_le _, rfl, rfl, rfl⟩
  case round =>
    obtain ⟨k, hk, rfl, hkp, rfl⟩ := hrel
    by_cases hlt : k < L.length
    · obtain ⟨A', cap', hv, hc⟩ := HV.out
      cases hv
      obtain ⟨b, off, rfl, c0⟩ := hc k hlt
      have HST := Lib.hid (any_step (x := x) hlt hkp.out)
      have HT := Lib.hid (fun (he : ((L[k]'hlt) == x) = true) => (show (L.any fun y => y == x) = true from List.any_eq_true.2 ⟨_, List.getElem_mem hlt, he⟩))
      generalize L[k] = y at *
      clear hc
      by_cases hy : (y == x) = true
      · go_wp2
        go_ret
        refine ⟨?_, rfl⟩
        rw [hres.out, HT.out hy]
        rfl
      · have hy : (y == x) = false := by simpa using hy
        go_wp2
        go_roundw
        case rel => exact ⟨k + 1, by omega, by go_num, HST.out hy, trivial⟩
        case measure => simp [intOf]; omega
    · obtain rfl : k = L.length := by omega
      go_wp2
      go_ret
      refine ⟨?_, rfl⟩
      have := hkp.out
      rw [List.take_length] at this
      rw [hres.out, this]
      rfl

theorem ref_bit {n W r : Nat} (h : n = W >>> r) : (((n : Int) % 2) == 1) = W.testBit r := by
  rw [Nat.testBit_eq_decide_div_mod_eq, ← Nat.shiftRight_eq_div_pow, ← h]
  by_cases h : n % 2 = 1
  · rw [decide_eq_true h, beq_iff_eq]; omega
  · rw [decide_eq_false h, beq_eq_false_iff_ne]; omega

theorem shr_succ {n W i : Nat} (h : n = W >>> i) (hW : W < 18446744073709551616) : IntKind.u64.wrap ((n : Int) / 2) = ((W >>> (i + 1) : Nat) : Int) := by
  have hle : W >>> i ≤ W := Nat.shiftRight_le _ _
  rw [← h] at hle
  rw [Nat.shiftRight_succ, ← h, IntWalk.u64_in _ ⟨by omega, by omega⟩]
  omega

set_option maxHeartbeats 1000000 in
theorem rhas_in (M : Nat) (c : Nat) (hc : c < 256) (w : World) : Calls Try.prog 57 #[valM M, .int .i64 c] w fun e w' => e = .returned (.bool (M.testBit c)) ∧ Fr (fun _ => False) w w' := by
  have B := Blk.new w 40 (cellsM M)
  have hq := cellsM_get M (c / 64) (by omega)
  have c0 : (w.alloc (.cells (cellsM M) 40)).cell? ⟨w.heap.size, c / 64, none⟩ = some (.int .u64 (wordM M (c / 64) : Nat)) := (B.cell _).trans hq
  have hbit : M.testBit c = (wordM M (c / 64)).testBit (c % 64) := by rw [wordM_bit _ _ _ (by omega)]; congr 1; omega
  rw [hbit]
  have hwl := wordM_lt M (c / 64)
  generalize wordM M (c / 64) = W at *
  clear B hq
  unfold valM
  have hs : (cellsM M).size = 4 := rfl
  go_enter Try.func57, Try.ntmps57
  go_wp2
  go_loopw [5, 6] (fun n i wr => ∃ k : Nat, k ≤ c % 64 ∧ i = .int .i64 k ∧ n = .int .u64 ((W >>> k : Nat) : Int) ∧ w.alloc (.cells (cellsM M) 40) = wr) (fun _ i _ => 64 - (intOf i).toNat)
  case atStart => exact ⟨0, Nat.zero_le _, rfl, rfl, rfl⟩
  case round =>
    obtain ⟨k, hk, rfl, rfl, rfl⟩ := hrel
    by_cases hlt : k < c % 64
    · have h1 := shr_succ (n := W >>> k) rfl hwl
      generalize W >>> k = n at *
      have H1 := Lib.hid h1
      clear h1
      go_wp2
      go_roundw
      case rel => exact ⟨k + 1, by omega, by go_num, by rw [H1.out], trivial⟩
      case measure => simp [intOf]; omega
    · obtain rfl : k = c % 64 := by omega
      have h2 := ref_bit (n := W >>> (c % 64)) rfl
      have H2 := Lib.hid h2
      clear h2
      generalize W >>> (c % 64) = n at *
      go_wp2
      go_ret
      refine ⟨?_, (Fr.refl _ w).alloc _⟩
      rw [← H2.out]
      rfl

set_option maxHeartbeats 1000000 in
theorem rhas_any (M : Nat) (c : Int) (w : World) : Calls Try.prog 57 #[valM M, .int .i64 c] w fun e w' => e = .returned (.bool (hasM M c)) ∧ Fr (fun _ => False) w w' := by
  by_cases h : 0 ≤ c ∧ c < 256
  · obtain ⟨n, rfl⟩ : ∃ n : Nat, c = (n : Int) := ⟨c.toNat, by omega⟩
    have e : hasM M (n : Int) = M.testBit n := by unfold hasM; rw [decide_eq_true h]; simp
    rw [e]
    exact rhas_in M n (by omega) w
  · have e : hasM M c = false := by unfold hasM; rw [decide_eq_false h]; rfl
    rw [e]
    unfold valM cellsM
    clear e
    by_cases h0 : c < 0
    · go_enter Try.func57, Try.ntmps57
      go_wp2
      go_ret
      exact ⟨rfl, (Fr.refl _ w).alloc _⟩
    · have h1 : ¬ c ≤ 255 := by omega
      go_enter Try.func57, Try.ntmps57
      go_wp2
      go_ret
      exact ⟨rfl, (Fr.refl _ w).alloc _⟩

/-- The mask of the cores of a list, whatever else it holds. -/
def makeM (L : List Int) : Nat := bitsL (L.filter fun c => decide (0 ≤ c ∧ c < 256))
theorem makeM_bit (L : List Int) (n : Nat) (hn : n < 256) : (makeM L).testBit n = L.any fun y => y == (n : Int) := by
  have h : ∀ c ∈ L.filter (fun c => decide (0 ≤ c ∧ c < 256)), 0 ≤ c ∧ c < 256 := fun c hc => by simpa using (List.mem_filter.1 hc).2
  have h1 := bitsL_has h (c := (n : Int)) (by omega)
  simp only [Int.toNat_natCast] at h1
  rw [Bool.eq_iff_iff]
  unfold makeM
  rw [h1, List.mem_filter, List.any_eq_true]
  constructor
  · rintro ⟨hm, _⟩
    exact ⟨_, hm, by simp⟩
  · rintro ⟨y, hy, he⟩
    have : y = (n : Int) := by simpa using he
    subst this
    exact ⟨hy, by simp; omega⟩
theorem makeM_good {L : List Int} (h : ∀ c ∈ L, 0 ≤ c ∧ c < 256) : makeM L = bitsL L := by
  unfold makeM
  rw [List.filter_eq_self.2 fun c hc => by simpa using h c hc]

/-- .. one word of it, bit by bit from above. -/
theorem shr_back (W j : Nat) (hj : j < 64) : W >>> j = 2 * (W >>> (j + 1)) + (if W.testBit j then 1 else 0) := by
  rw [Nat.shiftRight_succ, Nat.testBit_eq_decide_div_mod_eq, ← Nat.shiftRight_eq_div_pow]
  simp only [decide_eq_true_eq]
  split <;> omega

end Go.Proofs.Ytcefadbnmpjeiaa
