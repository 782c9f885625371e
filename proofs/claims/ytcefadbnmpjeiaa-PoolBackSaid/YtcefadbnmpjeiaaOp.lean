/-
  The plain law of CoresOrder: an order has each core once.
-/
import Derived.Test.YtcefadbnmpjeiaaArgs
namespace Go.Proofs.Ytcefadbnmpjeiaa
open Go.RowKit Go.Maps

theorem cyc_get (s p : Nat) (hs : 1 ≤ s) : ∀ (k i : Nat) (_ : i < k * s), (cyc s p k)[i]? = some (((i % s) * p + i / s : Nat) : Int)
  | 0, i, h => by simp at h
  | k + 1, i, h => by
    rw [cyc_succ]
    by_cases hi : i < k * s
    · rw [List.getElem?_append_left (by rw [cyc_len]; exact hi)]
      exact cyc_get s p hs k i hi
    · rw [List.getElem?_append_right (by rw [cyc_len]; omega), cyc_len]
      rw [Nat.add_mul] at h
      have hj : i - k * s < s := by omega
      have h1 : i / s = k := Nat.div_eq_of_lt_le (by omega) (by rw [Nat.add_mul]; omega)
      have h2 : i % s = i - k * s := by
        have := Nat.mod_add_div i s
        rw [h1, Nat.mul_comm] at this
        omega
      rw [h1, h2]
      simp [rowC, hj]

theorem cyc_map (s p : Nat) (hs : 1 ≤ s) : cyc s p p = (List.range (p * s)).map fun i : Nat => (((i % s) * p + i / s : Nat) : Int) := by
  refine List.ext_getElem? fun i => ?_
  by_cases hi : i < p * s
  · rw [cyc_get s p hs p i hi]
    simp [hi]
  · rw [List.getElem?_eq_none (by rw [cyc_len]; omega), List.getElem?_eq_none (by simp; omega)]

theorem cyc_at {s p i : Nat} (hs : 1 ≤ s) (hi : i < p * s) : ((i % s) * p + i / s) / p = i % s ∧ ((i % s) * p + i / s) % p = i / s := by
  have h1 : i / s < p := Nat.div_lt_of_lt_mul (by rw [Nat.mul_comm]; exact hi)
  have hp : 0 < p := Nat.lt_of_le_of_lt (Nat.zero_le _) h1
  constructor
  · rw [Nat.mul_comm, Nat.mul_add_div hp, Nat.div_eq_of_lt h1]; rfl
  · rw [Nat.mul_comm, Nat.mul_add_mod, Nat.mod_eq_of_lt h1]

theorem cyc_lt {s p i : Nat} (hs : 1 ≤ s) (hi : i < p * s) : (i % s) * p + i / s < s * p := by
  have h1 : i / s < p := Nat.div_lt_of_lt_mul (by rw [Nat.mul_comm]; exact hi)
  have h2 : i % s < s := Nat.mod_lt _ hs
  have h3 : (i % s + 1) * p ≤ s * p := Nat.mul_le_mul_right _ h2
  rw [Nat.add_mul] at h3
  omega

theorem nodup_map_range {f : Nat → Int} {n : Nat} (h : ∀ i j, i < n → j < n → f i = f j → i = j) : ((List.range n).map f).Nodup := by
  unfold List.Nodup
  rw [List.pairwise_map]
  have hn : (List.range n).Pairwise (· ≠ ·) := List.nodup_range
  refine List.Pairwise.imp_of_mem (fun {a b} ha hb hab e => ?_) hn
  exact hab (h a b (List.mem_range.1 ha) (List.mem_range.1 hb) e)

theorem bits_of_set {L : List Int} {n : Nat} (h : ∀ c ∈ L, 0 ≤ c ∧ c < 256) (hm : ∀ i : Nat, ((i : Int) ∈ L ↔ i < n)) : bitsL L = 2 ^ n - 1 := by
  refine Nat.eq_of_testBit_eq fun i => ?_
  rw [Nat.testBit_two_pow_sub_one]
  have := bitsL_has h (c := (i : Int)) (by omega)
  simp only [Int.toNat_natCast] at this
  rw [Bool.eq_iff_iff, this, hm, decide_eq_true_iff]

theorem upTo_good {n : Nat} (hn : n ≤ 256) : goodL (upTo n) :=
  ⟨fun c hc => by obtain ⟨k, hk, rfl⟩ := List.mem_map.1 hc; have := List.mem_range.1 hk; omega, nodup_map_range fun i j _ _ e => by omega⟩

theorem cyc_good {s p : Nat} (hs : 1 ≤ s) (hsp : s * p ≤ 256) : goodL (cyc s p p) ∧ bitsL (cyc s p p) = 2 ^ (s * p) - 1 := by
  rw [cyc_map s p hs]
  have hr : ∀ c ∈ (List.range (p * s)).map (fun i : Nat => (((i % s) * p + i / s : Nat) : Int)), 0 ≤ c ∧ c < 256 := fun c hc => by
    obtain ⟨i, hi, rfl⟩ := List.mem_map.1 hc
    have := cyc_lt (p := p) hs (List.mem_range.1 hi)
    generalize (i % s) * p + i / s = x at *
    omega
  refine ⟨⟨hr, nodup_map_range fun i j hi hj e => ?_⟩, bits_of_set hr fun n => ?_⟩
  · have e' : (i % s) * p + i / s = (j % s) * p + j / s := by omega
    have h1 := cyc_at hs hi
    have h2 := cyc_at hs hj
    rw [e'] at h1
    have h3 := h1.1.symm.trans h2.1
    have h4 := h1.2.symm.trans h2.2
    have h5 := Nat.mod_add_div i s
    have h6 := Nat.mod_add_div j s
    rw [← h5, ← h6, h3, h4]
  · rw [List.mem_map]
    constructor
    · rintro ⟨i, hi, he⟩
      have := cyc_lt (p := p) hs (List.mem_range.1 hi)
      generalize (i % s) * p + i / s = x at *
      omega
    · intro hn
      have hp : 0 < p := by
        rcases Nat.eq_zero_or_pos p with h0 | h0
        · rw [h0] at hn; simp at hn
        · exact h0
      have h1 : n / p < s := Nat.div_lt_of_lt_mul (by rw [Nat.mul_comm]; exact hn)
      have h2 : n % p < p := Nat.mod_lt _ hp
      refine ⟨s * (n % p) + n / p, List.mem_range.2 ?_, ?_⟩
      · have h3 : s * (n % p + 1) ≤ s * p := Nat.mul_le_mul_left _ h2
        rw [Nat.mul_add, Nat.mul_comm s p] at h3
        omega
      · have e1 : (s * (n % p) + n / p) % s = n / p := by rw [Nat.mul_add_mod, Nat.mod_eq_of_lt h1]
        have e2 : (s * (n % p) + n / p) / s = n % p := by rw [Nat.mul_add_div hs, Nat.div_eq_of_lt h1]; rfl
        rw [e1, e2]
        have := Nat.div_add_mod n p
        rw [Nat.mul_comm] at this
        omega

/-- What the order of a layout that may be is. -/
theorem order_facts {l : LayD} {d : Int} (h : okO l d) : ofM (l.order d) = (l.all, 0) ∧ 1 ≤ (l.order d).length := by
  obtain ⟨hm, hd⟩ := h
  obtain ⟨s, p, rfl, h1, h2, h3⟩ := nats_of hm
  have hall : (⟨(s : Int), (p : Int)⟩ : LayD).all = 2 ^ (s * p) - 1 := by unfold LayD.all; rw [nat_count h1 h2 h3, Int.toNat_natCast]
  have hpos : 1 ≤ s * p := Nat.mul_pos h1.1 h2.1
  rcases hd with rfl | rfl
  · rw [order_block h1 h2 h3, hall, upTo_len]
    exact ⟨by rw [ofM, if_pos (upTo_good h3), bits_upTo], hpos⟩
  · rw [order_cyclic h1 h2 h3, hall, cyc_len, Nat.mul_comm p s]
    obtain ⟨g1, g2⟩ := cyc_good h1.1 h3
    exact ⟨by rw [ofM, if_pos g1, g2], hpos⟩

theorem order_next {l : LayD} (h : okO l 0) (j : Nat) (hj : j + 1 < (l.order 0).length) : (l.order 0)[j + 1] = (l.order 0)[j] + 1 := by
  obtain ⟨hm, hd⟩ := h
  obtain ⟨s, p, rfl, h1, h2, h3⟩ := nats_of hm
  simp only [order_block h1 h2 h3]
  simp [upTo]

theorem order_apart {l : LayD} (h : okO l 1) (hs : 1 < l.s) (j : Nat) (hj : j + 1 < (l.order 1).length) : l.socket (l.order 1)[j + 1] ≠ l.socket (l.order 1)[j] := by
  obtain ⟨hm, hd⟩ := h
  obtain ⟨s, p, rfl, h1, h2, h3⟩ := nats_of hm
  simp only [order_cyclic h1 h2 h3, cyc_map s p h1.1] at hj ⊢
  simp only [List.length_map, List.length_range] at hj
  have hs' : 1 < s := by simp only at hs; omega
  have sock : ∀ i, i < p * s → (⟨(s : Int), (p : Int)⟩ : LayD).socket (((i % s) * p + i / s : Nat) : Int) = ((i % s : Nat) : Int) := fun i hi => by
    have hl := cyc_lt (p := p) h1.1 hi
    have ha := cyc_at h1.1 hi
    obtain ⟨x, hx⟩ : ∃ x, (i % s) * p + i / s = x := ⟨_, rfl⟩
    rw [hx] at hl ha ⊢
    unfold LayD.socket
    rw [nat_count h1 h2 h3, if_pos ⟨by omega, by omega⟩, ← ha.1]
    exact (Int.natCast_ediv x p).symm
  simp only [List.getElem_map, List.getElem_range]
  rw [sock _ hj, sock _ (by omega)]
  intro e
  have e' : (j + 1) % s = j % s := by omega
  have h5 := Nat.mod_add_div j s
  have h6 : (j % s + 1) % s = (j + 1) % s := by rw [Nat.add_mod, Nat.mod_mod, ← Nat.add_mod]
  have h7 : j % s < s := Nat.mod_lt _ (by omega)
  rw [e'] at h6
  by_cases h8 : j % s + 1 = s
  · rw [h8, Nat.mod_self] at h6; omega
  · rw [Nat.mod_eq_of_lt (by omega)] at h6; omega

end Go.Proofs.Ytcefadbnmpjeiaa
