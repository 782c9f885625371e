/-
  The reference's masks: in, Has, Make.
-/
import Derived.Test.YtomoomopodihhaaMaskOf
namespace Go.Proofs.Ytomoomopodihhaa
open Go.RowKit Go.Maps

theorem any_step {L : List Int} {x : Int} {k : Nat} (hk : k < L.length) (h : (L.take k).any (fun y => y == x) = false) (hn : ((L[k]'hk) == x) = false) : (L.take (k + 1)).any (fun y => y == x) = false := by
  rw [List.take_succ_eq_append_getElem hk, List.any_append, h, List.any_cons, hn]
  rfl

set_option maxHeartbeats 1000000 in
theorem in_any (w : World) (v : Value) (L : List Int) (h : IntsV w v L) (hl : L.length ≤ maxLen) (x : Int) (res : Bool) (hres : Hid (res = L.any fun y => y == x)) :
    Calls Try.prog 90 #[v, .int .i64 x] w fun e w' => e = .returned (.bool res) ∧ w = w' := by
  unfold maxLen at hl
  have HV := Lib.hid h
  obtain ⟨A, cap, rfl, _⟩ := h
  go_enter Try.func90, Try.ntmps90
  go_wp2
  go_loopw [5] (fun i wr => ∃ k : Nat, k ≤ L.length ∧ i = .int .i64 k ∧ Hid ((L.take k).any (fun y => y == x) = false) ∧ w = wr) (fun i _ => L.length - (intOf i).toNat)
  case atStart => exact ⟨0, Nat.zero_le _, rfl, rfl, rfl⟩
  case round =>
    obtain ⟨k, hk, rfl, hkp, rfl⟩ := hrel
    by_cases hlt : k < L.length
    · obtain ⟨A', cap', hv, hc⟩ := HV.out
      cases hv
      obtain ⟨b, off, rfl, c0⟩ := hc k hlt
      have HST := Lib.hid (any_step (x := x) hlt hkp.out)
      have HT := Lib.hid (fun (he : ((L[k]'hlt) == x) = true) => (show (L.any fun y => y == x) = true from List.any_eq_true.2 ⟨_, List.getElem_mem hlt, he⟩))
      generalize L[k] = y at *
      clear hc
      by_cases hy : (y == x) = true
      · go_wp2
        go_ret
        refine ⟨?_, rfl⟩
        rw [hres.out, HT.out hy]
        rfl
      · have hy : (y == x) = false := by simpa using hy
        go_wp2
        go_roundw
        case rel => exact ⟨k + 1, by omega, by go_num, HST.out hy, trivial⟩
        case measure => simp [intOf]; omega
    · obtain rfl : k = L.length := by omega
      go_wp2
      go_ret
      refine ⟨?_, rfl⟩
      have := hkp.out
      rw [List.take_length] at this
      rw [hres.out, this]
      rfl

theorem ref_bit {n W r : Nat} (h : n = W >>> r) : (((n : Int) % 2) == 1) = W.testBit r := by
  rw [Nat.testBit_eq_decide_div_mod_eq, ← Nat.shiftRight_eq_div_pow, ← h]
  by_cases h : n % 2 = 1
  · rw [decide_eq_true h, beq_iff_eq]; omega
  · rw [decide_eq_false h, beq_eq_false_iff_ne]; omega

theorem shr_succ {n W i : Nat} (h : n = W >>> i) (hW : W < 18446744073709551616) : IntKind.u64.wrap ((n : Int) / 2) = ((W >>> (i + 1) : Nat) : Int) := by
  have hle : W >>> i ≤ W := Nat.shiftRight_le _ _
  rw [← h] at hle
  rw [Nat.shiftRight_succ, ← h, IntWalk.u64_in _ ⟨by omega, by omega⟩]
  omega

/-- The mask of the cores of a list, whatever else it holds. -/
def makeM (L : List Int) : Nat := bitsL (L.filter fun c => decide (0 ≤ c ∧ c < 256))
theorem makeM_bit (L : List Int) (n : Nat) (hn : n < 256) : (makeM L).testBit n = L.any fun y => y == (n : Int) := by
  have h : ∀ c ∈ L.filter (fun c => decide (0 ≤ c ∧ c < 256)), 0 ≤ c ∧ c < 256 := fun c hc => by simpa using (List.mem_filter.1 hc).2
  have h1 := bitsL_has h (c := (n : Int)) (by omega)
  simp only [Int.toNat_natCast] at h1
  rw [Bool.eq_iff_iff]
  unfold makeM
  rw [h1, List.mem_filter, List.any_eq_true]
  constructor
  · rintro ⟨hm, _⟩
    exact ⟨_, hm, by simp⟩
  · rintro ⟨y, hy, he⟩
    have : y = (n : Int) := by simpa using he
    subst this
    exact ⟨hy, by simp; omega⟩
theorem makeM_good {L : List Int} (h : ∀ c ∈ L, 0 ≤ c ∧ c < 256) : makeM L = bitsL L := by
  unfold makeM
  rw [List.filter_eq_self.2 fun c hc => by simpa using h c hc]

/-- .. one word of it, bit by bit from above. -/
theorem shr_back (W j : Nat) (hj : j < 64) : W >>> j = 2 * (W >>> (j + 1)) + (if W.testBit j then 1 else 0) := by
  rw [Nat.shiftRight_succ, Nat.testBit_eq_decide_div_mod_eq, ← Nat.shiftRight_eq_div_pow]
  simp only [decide_eq_true_eq]
  split <;> omega

end Go.Proofs.Ytomoomopodihhaa
