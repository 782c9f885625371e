/-
  Plain laws of CoresApart.
-/
import Derived.Test.YtcefadbnmpjeiaaMp
import Derived.Test.YtcefadbnmpjeiaaCo
namespace Go.Proofs.Ytcefadbnmpjeiaa
open Go.RowKit Go.Maps Go.Shelf

theorem makeM_big (L : List Int) (n : Nat) (hn : 256 ≤ n) : (makeM L).testBit n = false := by
  unfold makeM bitsL
  rw [bitsL_bit, Nat.zero_testBit, Bool.false_or, List.any_eq_false]
  intro c hc
  have := List.mem_filter.1 hc
  simp only [decide_eq_true_eq] at this
  simp only [beq_iff_eq]
  omega

theorem makeM_mem (L : List Int) (n : Nat) (hn : n < 256) : (makeM L).testBit n = true ↔ (n : Int) ∈ L := by
  rw [makeM_bit L n hn, List.any_eq_true]
  constructor
  · rintro ⟨y, hy, h⟩; rw [beq_iff_eq] at h; rw [← h]; exact hy
  · intro h; exact ⟨_, h, by simp⟩

theorem hasM_make {L : List Int} (h : goodL L) (c : Int) : hasM (makeM L) c = true ↔ c ∈ L := by
  unfold hasM
  rw [Bool.and_eq_true, decide_eq_true_eq]
  constructor
  · rintro ⟨⟨h0, h1⟩, h2⟩
    have := (makeM_mem L c.toNat (by omega)).1 h2
    rwa [show ((c.toNat : Nat) : Int) = c by omega] at this
  · intro hc
    have hr := h.1 c hc
    refine ⟨hr, (makeM_mem L c.toNat (by omega)).2 ?_⟩
    rwa [show ((c.toNat : Nat) : Int) = c by omega]

theorem nodup_filter {p : Int → Bool} {L : List Int} (h : L.Nodup) : (L.filter p).Nodup := h.sublist List.filter_sublist

theorem count_make {L : List Int} (h : goodL L) : countM (makeM L) = L.length := by
  unfold countM coresL
  have hu := upTo_good (n := 256) (Nat.le_refl _)
  refine List.Perm.length_eq ((List.perm_ext_iff_of_nodup (nodup_filter hu.2) h.2).2 fun c => ?_)
  rw [List.mem_filter, hasM_make h]
  constructor
  · exact fun hc => hc.2
  · intro hc
    refine ⟨?_, hc⟩
    have hr := h.1 c hc
    unfold upTo
    exact List.mem_map.2 ⟨c.toNat, List.mem_range.2 (by omega), by omega⟩

theorem eq_zero_of {M : Nat} (h : ∀ n, M.testBit n = false) : M = 0 := Nat.eq_of_testBit_eq fun i => by rw [h i, Nat.zero_testBit]

theorem and_apart {a b : List Int} (h : ∀ c ∈ a, c ∉ b) : andM (makeM a) (makeM b) = 0 := by
  refine eq_zero_of fun n => ?_
  unfold andM
  rw [Nat.testBit_and]
  by_cases hn : n < 256
  · cases h1 : (makeM a).testBit n with
    | false => rfl
    | true =>
      cases h2 : (makeM b).testBit n with
      | false => rfl
      | true => exact absurd ((makeM_mem b n hn).1 h2) (h _ ((makeM_mem a n hn).1 h1))
  · rw [makeM_big a n (by omega)]; rfl

theorem minus_sub {a : List Int} {N : Nat} (h : ∀ c ∈ a, hasM N c = true) : minusM (makeM a) N = 0 := by
  refine eq_zero_of fun n => ?_
  unfold minusM
  rw [Nat.testBit_xor, Nat.testBit_and]
  by_cases hn : n < 256
  · cases h1 : (makeM a).testBit n with
    | false => rfl
    | true =>
      have h2 := h _ ((makeM_mem a n hn).1 h1)
      unfold hasM at h2
      rw [Bool.and_eq_true] at h2
      have h3 := h2.2
      rw [Int.toNat_natCast] at h3
      rw [h3]; rfl
  · rw [makeM_big a n (by omega)]; rfl

theorem or_make (a b : List Int) : orM (makeM a) (makeM b) = makeM (a ++ b) := by
  refine Nat.eq_of_testBit_eq fun n => ?_
  unfold orM
  rw [Nat.testBit_or]
  by_cases hn : n < 256
  · rw [makeM_bit _ _ hn, makeM_bit _ _ hn, makeM_bit _ _ hn, List.any_append]
  · rw [makeM_big _ _ (by omega), makeM_big _ _ (by omega), makeM_big _ _ (by omega)]; rfl

theorem part4_take (fr : List Int) (P i : Nat) : fr.take (i * P) ++ part4 fr P i = fr.take ((i + 1) * P) := by
  unfold part4
  rw [Nat.add_mul, Nat.one_mul, List.take_add]

/-- What the walk asks of the ranks' masks. -/
structure ApartP (F A : Nat) (P : Nat) (Ms Us : List Nat) : Prop where
  len : Us.length = Ms.length + 1
  zero : Us[0]? = some 0
  cnt : ∀ M ∈ Ms, countM M = P
  and_ : ∀ (i M U : Nat), Ms[i]? = some M → Us[i]? = some U → andM M U = 0
  mF : ∀ M ∈ Ms, minusM M F = 0
  mA : ∀ M ∈ Ms, minusM M A = 0
  or_ : ∀ (i M U : Nat), Ms[i]? = some M → Us[i]? = some U → Us[i + 1]? = some (orM U M)
  last : ∀ (U : Nat), Us[Ms.length]? = some U → countM U = Ms.length * P

theorem apart_plain {l : LayD} {x : WishD} (h : (refP l x).2 = 0) : (refP l x).1.length = x.ranks.toNat ∧ ∃ Us, ApartP x.free l.all x.per.toNat (refP l x).1 Us := by
  obtain ⟨ho, hc, h1⟩ := refP_ok h
  rw [h1]
  have hg := order_goodL l x.dist ho.1
  have hall : makeM (l.order x.dist) = l.all := by
    rw [← ofM_make hg, (order_facts ho.1).1]
  have hf := goodL_filter hg (hasM x.free)
  have hsub : ∀ c ∈ (l.order x.dist).filter (hasM x.free), hasM x.free c = true ∧ hasM l.all c = true := fun c hcm => by
    obtain ⟨hm, hh⟩ := List.mem_filter.1 hcm
    refine ⟨hh, ?_⟩
    rw [← hall]
    exact (hasM_make hg c).2 hm
  generalize (l.order x.dist).filter (hasM x.free) = fr at *
  generalize x.ranks.toNat = R at *
  generalize x.per.toNat = P at *
  refine ⟨by simp, (List.range (R + 1)).map fun i => makeM (fr.take (i * P)), ?_⟩
  have hpart : ∀ i, i < R → (part4 fr P i).length = P := fun i hi => by
    have : (i + 1) * P ≤ R * P := Nat.mul_le_mul_right _ (by omega)
    rw [Nat.add_mul] at this
    unfold part4
    rw [List.length_take, List.length_drop]
    omega
  have hmem : ∀ i, ∀ c ∈ part4 fr P i, c ∈ fr := fun i c hcm => List.mem_of_mem_drop (List.mem_of_mem_take hcm)
  have hM : ∀ (i M : Nat), ((List.range R).map fun i => makeM (part4 fr P i))[i]? = some M → i < R ∧ M = makeM (part4 fr P i) := fun i M hM => by
    rw [List.getElem?_map] at hM
    by_cases hi : i < R
    · rw [List.getElem?_range hi] at hM
      exact ⟨hi, (Option.some.inj hM).symm⟩
    · rw [List.getElem?_eq_none (by simp; omega)] at hM; cases hM
  have hU : ∀ (i U : Nat), ((List.range (R + 1)).map fun i => makeM (fr.take (i * P)))[i]? = some U → i < R + 1 ∧ U = makeM (fr.take (i * P)) := fun i U hU => by
    rw [List.getElem?_map] at hU
    by_cases hi : i < R + 1
    · rw [List.getElem?_range hi] at hU
      exact ⟨hi, (Option.some.inj hU).symm⟩
    · rw [List.getElem?_eq_none (by simp; omega)] at hU; cases hU
  refine ⟨by simp, ?_, ?_, ?_, ?_, ?_, ?_, ?_⟩
  · rw [List.getElem?_map, List.getElem?_range (by omega)]
    simp [makeM, bitsL]
  · intro M hMm
    obtain ⟨i, hi, rfl⟩ := List.mem_map.1 hMm
    rw [count_make (goodL_part hf P i), hpart i (List.mem_range.1 hi)]
  · intro i M U h1 h2
    obtain ⟨hi, rfl⟩ := hM i M h1
    obtain ⟨_, rfl⟩ := hU i U h2
    refine and_apart fun c ha hb => ?_
    have hn := hf.2
    rw [← List.take_append_drop (i * P) fr, List.nodup_append] at hn
    exact hn.2.2 c hb c (List.mem_of_mem_take ha) rfl
  · intro M hMm
    obtain ⟨i, hi, rfl⟩ := List.mem_map.1 hMm
    exact minus_sub fun c hcm => (hsub c (hmem i c hcm)).1
  · intro M hMm
    obtain ⟨i, hi, rfl⟩ := List.mem_map.1 hMm
    exact minus_sub fun c hcm => (hsub c (hmem i c hcm)).2
  · intro i M U h1 h2
    obtain ⟨hi, rfl⟩ := hM i M h1
    obtain ⟨_, rfl⟩ := hU i U h2
    rw [List.getElem?_map, List.getElem?_range (by omega), or_make, part4_take]
    rfl
  · intro U h2
    obtain ⟨_, rfl⟩ := hU _ U h2
    rw [List.length_map, List.length_range]
    have hgt : goodL (fr.take (R * P)) := ⟨fun c hcm => hf.1 c (List.mem_of_mem_take hcm), hf.2.sublist (List.take_sublist _ _)⟩
    rw [count_make hgt, List.length_take]
    omega

end Go.Proofs.Ytcefadbnmpjeiaa
