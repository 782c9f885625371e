/-
  The pools' plain law: the program's holdings and the reference's owners of cores say the same.
-/
import Derived.Test.YtcefadbnmpjeiaaPlA
import Derived.Test.YtcefadbnmpjeiaaDp
import Derived.Test.YtcefadbnmpjeiaaRow
import Derived.Test.YtcefadbnmpjeiaaMaskEq
import Derived.Test.YtcefadbnmpjeiaaRef3M
import Derived.Test.YtcefadbnmpjeiaaD
import Derived.Maps.AppendAt
import Derived.Test.YtcefadbnmpjeiaaAs
import Derived.Test.YtcefadbnmpjeiaaN
namespace Go.Proofs.Ytcefadbnmpjeiaa
open Go.RowKit Go.Maps

/-- The cores of an owner among the first k: the reference's list. -/
def havL (own : List Int) (n : Int) (k : Nat) : List Int := ((List.range k).filter fun c => own.getD c 0 == n).map fun c : Nat => (c : Int)
def havM (own : List Int) (n : Int) : Nat := makeM (havL own n own.length)
def giveK (own : List Int) (n : Int) (M : Nat) (k : Nat) : List Int := (List.range own.length).map fun c : Nat => if decide (c < k) && hasM M (c : Int) then n else own.getD c 0
def giveL (own : List Int) (n : Int) (M : Nat) : List Int := giveK own n M own.length
def hasR (own : List Int) (n : Int) : Bool := mayO n && decide (havM own n ≠ 0)
def doneR (D : List Int) (n : Int) : Bool := D.any fun x => x == n

theorem havL_succ (own : List Int) (n : Int) (k : Nat) : havL own n (k + 1) = if own.getD k 0 == n then havL own n k ++ [(k : Int)] else havL own n k := by
  unfold havL
  rw [List.range_succ, List.filter_append]
  by_cases h : (own.getD k 0 == n) = true
  · rw [if_pos h, List.map_append, List.filter_cons_of_pos (p := fun c => own.getD c 0 == n) h]; rfl
  · rw [if_neg h, List.map_append, List.filter_cons_of_neg (p := fun c => own.getD c 0 == n) h]; simp
theorem havL_mem {own : List Int} {n : Int} {k : Nat} (i : Nat) : (i : Int) ∈ havL own n k ↔ i < k ∧ own.getD i 0 = n := by
  unfold havL
  simp only [List.mem_map, List.mem_filter, List.mem_range, beq_iff_eq]
  constructor
  · rintro ⟨a, ⟨h1, h2⟩, h3⟩
    obtain rfl : a = i := by omega
    exact ⟨h1, h2⟩
  · rintro ⟨h1, h2⟩
    exact ⟨i, ⟨h1, h2⟩, rfl⟩
theorem havL_len (own : List Int) (n : Int) (k : Nat) : (havL own n k).length ≤ k := by
  unfold havL
  rw [List.length_map]
  exact Nat.le_trans (List.length_filter_le _ _) (by rw [List.length_range]; exact Nat.le_refl _)
theorem havM_bit {own : List Int} (hl : own.length ≤ 256) (n : Int) (i : Nat) : (havM own n).testBit i = true ↔ i < own.length ∧ own.getD i 0 = n := by
  unfold havM
  by_cases hi : i < 256
  · rw [makeM_mem _ _ hi, havL_mem]
  · rw [makeM_big _ _ (by omega)]
    constructor
    · intro h; cases h
    · intro h; omega
theorem havM_lt (own : List Int) (n : Int) : havM own n < 2 ^ 256 := makeM_lt _

theorem giveK_len (own : List Int) (n : Int) (M k : Nat) : (giveK own n M k).length = own.length := by simp [giveK]
theorem giveL_len (own : List Int) (n : Int) (M : Nat) : (giveL own n M).length = own.length := giveK_len _ _ _ _
theorem giveK_get {own : List Int} {n : Int} {M k i : Nat} (hi : i < own.length) : (giveK own n M k).getD i 0 = if i < k ∧ hasM M (i : Int) = true then n else own.getD i 0 := by
  unfold giveK
  rw [List.getD_eq_getElem?_getD, List.getElem?_map, List.getElem?_range hi]
  simp only [Option.map_some, Option.getD_some, Bool.and_eq_true, decide_eq_true_eq]
theorem giveK_zero (own : List Int) (n : Int) (M : Nat) : giveK own n M 0 = own := by
  refine List.ext_getElem (giveK_len _ _ _ _) fun i h1 h2 => ?_
  have := giveK_get (n := n) (M := M) (k := 0) h2
  rw [if_neg (by omega)] at this
  rw [List.getD_eq_getElem?_getD, List.getD_eq_getElem?_getD, List.getElem?_eq_getElem h1, List.getElem?_eq_getElem h2] at this
  exact this
theorem giveK_no {own : List Int} {n : Int} {M k : Nat} (h : hasM M (k : Int) = false) : giveK own n M (k + 1) = giveK own n M k := by
  unfold giveK
  refine List.map_congr_left fun c _ => ?_
  by_cases e : c = k
  · subst e; simp [h]
  · have : decide (c < k + 1) = decide (c < k) := by rw [decide_eq_decide]; omega
    rw [this]
theorem giveK_yes {own : List Int} {n : Int} {M k : Nat} (_ : k < own.length) (h : hasM M (k : Int) = true) : (giveK own n M k).set k n = giveK own n M (k + 1) := by
  refine List.ext_getElem (by simp [giveK_len]) fun i h1 h2 => ?_
  have hi : i < own.length := by rw [giveK_len] at h2; exact h2
  have e1 := giveK_get (n := n) (M := M) (k := k) hi
  have e2 := giveK_get (n := n) (M := M) (k := k + 1) hi
  rw [List.getD_eq_getElem?_getD, List.getElem?_eq_getElem h2] at e2
  rw [List.getD_eq_getElem?_getD, List.getElem?_eq_getElem (by rw [giveK_len]; exact hi)] at e1
  simp only [Option.getD_some] at e1 e2
  rw [List.getElem_set]
  by_cases e : k = i
  · subst e
    rw [if_pos rfl, e2, if_pos ⟨by omega, h⟩]
  · rw [if_neg e, e1, e2]
    by_cases h3 : i < k ∧ hasM M (i : Int) = true
    · rw [if_pos h3, if_pos ⟨by omega, h3.2⟩]
    · rw [if_neg h3, if_neg (fun h4 => h3 ⟨by omega, h4.2⟩)]
theorem giveL_get {own : List Int} {n : Int} {M i : Nat} (hl : own.length ≤ 256) (hi : i < own.length) : (giveL own n M).getD i 0 = if M.testBit i = true then n else own.getD i 0 := by
  unfold giveL
  rw [giveK_get hi]
  have : hasM M (i : Int) = M.testBit i := by
    unfold hasM
    rw [decide_eq_true (by omega : (0 : Int) ≤ (i : Int) ∧ (i : Int) < 256), Bool.true_and, Int.toNat_natCast]
  rw [this]
  by_cases h : M.testBit i = true
  · rw [if_pos ⟨hi, h⟩, if_pos h]
  · rw [if_neg (fun h2 => h h2.2), if_neg h]

/-- The program's holdings and the reference's lists say the same. -/
structure SimP (l : LayD) (H : List (Int × HoldD)) (own D : List Int) : Prop where
  may : l.may
  len : own.length = l.count.toNat
  key : ∀ p ∈ H, mayO p.1 = true
  nd : H.Pairwise fun p q => p.1 ≠ q.1
  bit : ∀ p ∈ H, ∀ i, p.2.1.testBit i = true ↔ (i < own.length ∧ own.getD i 0 = p.1)
  pos : ∀ p ∈ H, p.2.1 ≠ 0
  own_ : ∀ i, i < own.length → own.getD i 0 = -1 ∨ ∃ p ∈ H, p.1 = own.getD i 0
  dn : ∀ p ∈ H, p.2.2 = doneR D p.1
  dk : ∀ n ∈ D, ∃ p ∈ H, p.1 = n

section
variable {l : LayD} {H : List (Int × HoldD)} {own D : List Int}

theorem SimP.le256 (h : SimP l H own D) : own.length ≤ 256 := by
  have := l.count_bound
  rw [h.len]
  omega

theorem mayO_nonneg {n : Int} (h : mayO n = true) : 0 ≤ n := by
  unfold mayO at h
  simp only [Bool.and_eq_true, decide_eq_true_eq] at h
  exact h.1

theorem pair_uniq {H : List (Int × HoldD)} (hn : H.Pairwise fun p q => p.1 ≠ q.1) {p q : Int × HoldD} (hp : p ∈ H) (hq : q ∈ H) (h : p.1 = q.1) : p = q := by
  induction H with
  | nil => cases hp
  | cons a r ih =>
    obtain ⟨h1, h2⟩ := List.pairwise_cons.1 hn
    rcases List.mem_cons.1 hp with e1 | hp'
    · rcases List.mem_cons.1 hq with e2 | hq'
      · rw [e1, e2]
      · exact absurd (e1 ▸ h) (h1 q hq')
    · rcases List.mem_cons.1 hq with e2 | hq'
      · exact absurd (e2 ▸ h.symm) (h1 p hp')
      · exact ih h2 hp' hq'

theorem findH_of (hn : H.Pairwise fun p q => p.1 ≠ q.1) {p : Int × HoldD} (hp : p ∈ H) : findH H p.1 = some p.2 := by
  cases hf : findH H p.1 with
  | none => exact absurd rfl (findH_none hf p hp)
  | some u =>
    have := pair_uniq hn (findH_some hf) hp rfl
    rw [← this]

theorem SimP.hav (h : SimP l H own D) {p : Int × HoldD} (hp : p ∈ H) : havM own p.1 = p.2.1 :=
  Nat.eq_of_testBit_eq fun i => by
    rw [Bool.eq_iff_iff, havM_bit h.le256, h.bit p hp i]

theorem SimP.hav_none (h : SimP l H own D) {n : Int} (hn : mayO n = true) (hf : findH H n = none) : havM own n = 0 := by
  refine eq_zero_of fun i => ?_
  cases hb : (havM own n).testBit i with
  | false => rfl
  | true =>
    obtain ⟨h1, h2⟩ := (havM_bit h.le256 n i).1 hb
    have h0 := mayO_nonneg hn
    rcases h.own_ i h1 with h3 | ⟨p, hp, h3⟩
    · omega
    · exact absurd (h3.trans h2) (findH_none hf p hp)

theorem SimP.has (h : SimP l H own D) (n : Int) : hasR own n = (findH H n).isSome := by
  unfold hasR
  cases hf : findH H n with
  | none =>
    cases hm : mayO n with
    | false => rfl
    | true => rw [h.hav_none hm hf]; rfl
  | some u =>
    have hp := findH_some hf
    have h1 := h.key _ hp
    have h2 := h.hav hp
    have h3 := h.pos _ hp
    simp only at h1 h2 h3
    rw [h1, h2]
    simpa using h3

def ofR (own D : List Int) (n : Int) : HoldD := if hasR own n then (havM own n, doneR D n) else (0, false)

theorem SimP.of (h : SimP l H own D) (n : Int) : ofR own D n = ofP H n := by
  unfold ofR ofP
  rw [h.has]
  cases hf : findH H n with
  | none => rfl
  | some u =>
    have hp := findH_some hf
    have h2 := h.hav hp
    have h4 := h.dn _ hp
    simp only at h2 h4
    simp only [Option.isSome_some, if_true, Option.getD_some, h2, ← h4]

theorem all_bit (l : LayD) (i : Nat) : l.all.testBit i = decide (i < l.count.toNat) := by
  unfold LayD.all
  rw [Nat.testBit_two_pow_sub_one]

theorem SimP.free (h : SimP l H own D) : havM own (-1) = freeP l H := by
  refine Nat.eq_of_testBit_eq fun i => ?_
  rw [Bool.eq_iff_iff, havM_bit h.le256]
  unfold freeP
  rw [freeOf_bit, all_bit, ← h.len]
  simp only [Bool.and_eq_true, decide_eq_true_eq, Bool.not_eq_true', List.any_eq_false]
  constructor
  · rintro ⟨h1, h2⟩
    refine ⟨h1, fun p hp hb => ?_⟩
    have := ((h.bit p hp i).1 hb).2
    have := mayO_nonneg (h.key p hp)
    omega
  · rintro ⟨h1, h2⟩
    refine ⟨h1, ?_⟩
    rcases h.own_ i h1 with h3 | ⟨p, hp, h3⟩
    · exact h3
    · exact absurd ((h.bit p hp i).2 ⟨h1, h3.symm⟩) (h2 p hp)

theorem SimP.new (hm : l.may) : SimP l [] (List.replicate l.count.toNat (-1)) [] where
  may := hm
  len := by simp
  key := by simp
  nd := List.Pairwise.nil
  bit := by simp
  pos := by simp
  own_ i hi := by
    rw [List.length_replicate] at hi
    left
    rw [List.getD_eq_getElem?_getD, List.getElem?_replicate, if_pos hi]
    rfl
  dn := by simp
  dk := by simp

/-- Somebody new is given cores that are free. -/
theorem SimP.give (h : SimP l H own D) {n : Int} (hn : mayO n = true) (hf : findH H n = none) {M : Nat} (hM : minusM M (freeP l H) = 0) (h0 : M ≠ 0) (d : Bool) :
    SimP l (putH H n (M, d)) (giveL own n M) (if d then D ++ [n] else D) := by
  have h256 := h.le256
  have hsub : ∀ i, M.testBit i = true → i < own.length ∧ own.getD i 0 = -1 := fun i hi => by
    have h1 : (minusM M (freeP l H)).testBit i = false := by rw [hM]; exact Nat.zero_testBit _
    unfold minusM at h1
    rw [Nat.testBit_xor, Nat.testBit_and, hi] at h1
    rw [← h.free] at h1
    refine (havM_bit h256 (-1) i).1 ?_
    cases hb : (havM own (-1)).testBit i with
    | true => rfl
    | false => rw [hb] at h1; simp at h1
  have hput : putH H n (M, d) = (n, (M, d)) :: H := by
    unfold putH
    rw [List.filter_eq_self.2 (fun p hp => by simpa using findH_none hf p hp)]
  have hnD : n ∉ D := fun hd => by
    obtain ⟨p, hp, e⟩ := h.dk n hd
    exact findH_none hf p hp e
  have h0n := mayO_nonneg hn
  rw [hput]
  refine ⟨h.may, (giveL_len _ _ _).trans h.len, ?_, ?_, ?_, ?_, ?_, ?_, ?_⟩
  · intro p hp
    rcases List.mem_cons.1 hp with rfl | hp
    · exact hn
    · exact h.key p hp
  · exact List.pairwise_cons.2 ⟨fun p hp e => findH_none hf p hp e.symm, h.nd⟩
  · intro p hp i
    rw [giveL_len]
    rcases List.mem_cons.1 hp with rfl | hp
    · constructor
      · intro hi
        have := (hsub i hi).1
        exact ⟨this, by rw [giveL_get h256 this, if_pos hi]⟩
      · rintro ⟨hi, he⟩
        rw [giveL_get h256 hi] at he
        by_cases hb : M.testBit i = true
        · exact hb
        · rw [if_neg hb] at he
          simp only at he
          rcases h.own_ i hi with h3 | ⟨q, hq, h3⟩
          · omega
          · exact absurd (h3.trans he) (findH_none hf q hq)
    · rw [h.bit p hp i]
      constructor
      · rintro ⟨hi, he⟩
        refine ⟨hi, ?_⟩
        rw [giveL_get h256 hi]
        by_cases hb : M.testBit i = true
        · have := (hsub i hb).2
          have := mayO_nonneg (h.key p hp)
          omega
        · rw [if_neg hb]; exact he
      · rintro ⟨hi, he⟩
        refine ⟨hi, ?_⟩
        rw [giveL_get h256 hi] at he
        by_cases hb : M.testBit i = true
        · rw [if_pos hb] at he
          exact absurd he.symm (findH_none hf p hp)
        · rw [if_neg hb] at he; exact he
  · intro p hp
    rcases List.mem_cons.1 hp with rfl | hp
    · exact h0
    · exact h.pos p hp
  · intro i hi
    rw [giveL_len] at hi
    rw [giveL_get h256 hi]
    by_cases hb : M.testBit i = true
    · rw [if_pos hb]
      exact Or.inr ⟨_, List.mem_cons_self, rfl⟩
    · rw [if_neg hb]
      rcases h.own_ i hi with h3 | ⟨q, hq, h3⟩
      · exact Or.inl h3
      · exact Or.inr ⟨q, List.mem_cons_of_mem _ hq, h3⟩
  · intro p hp
    rcases List.mem_cons.1 hp with rfl | hp
    · cases d with
      | true => simp [doneR]
      | false =>
        simp only [Bool.false_eq_true, if_false]
        symm
        unfold doneR
        rw [List.any_eq_false]
        intro x hx e
        simp only [beq_iff_eq] at e
        exact hnD (e ▸ hx)
    · have h1 := findH_none hf p hp
      rw [h.dn p hp]
      cases d with
      | true =>
        unfold doneR
        have : (n == p.1) = false := by simpa using (fun e : n = p.1 => h1 e.symm)
        simp [this]
      | false => rfl
  · intro x hx
    have : x ∈ D ∨ x = n := by
      cases d with
      | true => simpa using hx
      | false => exact Or.inl hx
    rcases this with hx | rfl
    · obtain ⟨p, hp, e⟩ := h.dk x hx
      exact ⟨p, List.mem_cons_of_mem _ hp, e⟩
    · exact ⟨_, List.mem_cons_self, rfl⟩

theorem SimP.commit (h : SimP l H own D) {n : Int} {M : Nat} (hf : findH H n = some (M, false)) : SimP l (putH H n (M, true)) own (D ++ [n]) := by
  have hp0 := findH_some hf
  have hmem : ∀ p, p ∈ putH H n (M, true) → p = (n, (M, true)) ∨ (p ∈ H ∧ p.1 ≠ n) := fun p hp => by
    rcases List.mem_cons.1 hp with rfl | hp
    · exact Or.inl rfl
    · obtain ⟨h1, h2⟩ := List.mem_filter.1 hp
      exact Or.inr ⟨h1, by simpa using h2⟩
  have hback : ∀ p ∈ H, ∃ q ∈ putH H n (M, true), q.1 = p.1 := fun p hp => by
    by_cases e : p.1 = n
    · exact ⟨_, List.mem_cons_self, e.symm⟩
    · exact ⟨p, List.mem_cons_of_mem _ (List.mem_filter.2 ⟨hp, by simpa using e⟩), rfl⟩
  refine ⟨h.may, h.len, ?_, ?_, ?_, ?_, ?_, ?_, ?_⟩
  · intro p hp
    rcases hmem p hp with rfl | ⟨hp, _⟩
    · exact h.key (n, (M, false)) hp0
    · exact h.key p hp
  · refine List.pairwise_cons.2 ⟨fun p hp e => ?_, h.nd.sublist List.filter_sublist⟩
    have := (List.mem_filter.1 hp).2
    simp only [bne_iff_ne, ne_eq] at this
    exact this e.symm
  · intro p hp
    rcases hmem p hp with rfl | ⟨hp, _⟩
    · exact h.bit (n, (M, false)) hp0
    · exact h.bit p hp
  · intro p hp
    rcases hmem p hp with rfl | ⟨hp, _⟩
    · exact h.pos (n, (M, false)) hp0
    · exact h.pos p hp
  · intro i hi
    rcases h.own_ i hi with h3 | ⟨q, hq, h3⟩
    · exact Or.inl h3
    · obtain ⟨q', hq', e⟩ := hback q hq
      exact Or.inr ⟨q', hq', e.trans h3⟩
  · intro p hp
    rcases hmem p hp with rfl | ⟨hp, hne⟩
    · simp [doneR]
    · rw [h.dn p hp]
      unfold doneR
      have : (n == p.1) = false := by simpa using (fun e : n = p.1 => hne e.symm)
      simp [this]
  · intro x hx
    rcases List.mem_append.1 hx with hx | hx
    · obtain ⟨p, hp, e⟩ := h.dk x hx
      obtain ⟨q, hq, e2⟩ := hback p hp
      exact ⟨q, hq, e2.trans e⟩
    · rw [List.mem_singleton] at hx
      subst hx
      exact ⟨_, List.mem_cons_self, rfl⟩

theorem SimP.release (h : SimP l H own D) {n : Int} (hf : (findH H n).isSome = true) : SimP l (delH H n) (giveL own (-1) (havM own n)) (D.filter fun x => x != n) := by
  obtain ⟨u, hu⟩ := Option.isSome_iff_exists.1 hf
  have hp0 := findH_some hu
  have h256 := h.le256
  have hM : ∀ i, (havM own n).testBit i = true ↔ i < own.length ∧ own.getD i 0 = n := havM_bit h256 n
  have hn0 := mayO_nonneg (h.key _ hp0)
  have hmem : ∀ p, p ∈ delH H n ↔ (p ∈ H ∧ p.1 ≠ n) := fun p => by
    unfold delH
    rw [List.mem_filter]
    simp
  refine ⟨h.may, (giveL_len _ _ _).trans h.len, fun p hp => h.key p ((hmem p).1 hp).1, h.nd.sublist List.filter_sublist, ?_, fun p hp => h.pos p ((hmem p).1 hp).1, ?_, ?_, ?_⟩
  · intro p hp i
    obtain ⟨hp, hne⟩ := (hmem p).1 hp
    rw [giveL_len, h.bit p hp i]
    refine and_congr_right fun hi => ?_
    rw [giveL_get h256 hi]
    by_cases hb : (havM own n).testBit i = true
    · have h1 := ((hM i).1 hb).2
      have h2 := mayO_nonneg (h.key p hp)
      rw [if_pos hb, h1]
      constructor
      · intro e; exact absurd e.symm hne
      · intro e; omega
    · rw [if_neg hb]
  · intro i hi
    rw [giveL_len] at hi
    rw [giveL_get h256 hi]
    by_cases hb : (havM own n).testBit i = true
    · exact Or.inl (if_pos hb)
    · rw [if_neg hb]
      rcases h.own_ i hi with h3 | ⟨q, hq, h3⟩
      · exact Or.inl h3
      · refine Or.inr ⟨q, (hmem q).2 ⟨hq, fun e => hb ((hM i).2 ⟨hi, ?_⟩)⟩, h3⟩
        rw [← h3, e]
  · intro p hp
    obtain ⟨hp, hne⟩ := (hmem p).1 hp
    rw [h.dn p hp]
    unfold doneR
    rw [List.any_filter]
    congr 1
    funext x
    by_cases e : x = p.1
    · subst e; simp [hne]
    · simp [e]
  · intro x hx
    obtain ⟨hx, hne⟩ := List.mem_filter.1 hx
    obtain ⟨p, hp, e⟩ := h.dk x hx
    exact ⟨p, (hmem p).2 ⟨hp, by rw [e]; simpa using hne⟩, e⟩
end

end Go.Proofs.Ytcefadbnmpjeiaa

/-
  The reference's pool: owner, done, having, Free, has, Of.
-/
namespace Go.Proofs.Ytcefadbnmpjeiaa
open Go.RowKit Go.Maps

/-- The reference's pool lies in block r; its lists' rows are its own. -/
structure RPool (w : World) (base r : Nat) (l : LayD) (own D : List Int) (ov dv : Value) : Prop where
  blk : Blk w r 108 #[.int .i64 l.s, .int .i64 l.p, ov, dv]
  row : w.ownsRow base 3 1 ov own.length (own.map encI)
  dn : w.ownsRow base 3 1 dv D.length (D.map encI)
  hr : base ≤ r
  ne : ∀ g, ov.ownBlock = some g → dv.ownBlock ≠ some g

/-- The blocks that the reference may turn. -/
def RS (r : Nat) (ov dv : Value) (i : Nat) : Prop := i = r ∨ ov.ownBlock = some i ∨ dv.ownBlock = some i

section
variable {w w' : World} {base r : Nat} {l : LayD} {own D : List Int} {ov dv : Value}
theorem RPool.ge (h : RPool w base r l own D ov dv) {i : Nat} (hi : RS r ov dv i) : base ≤ i ∧ i < w.heap.size := by
  rcases hi with rfl | hi | hi
  · exact ⟨h.hr, h.blk.lt⟩
  · exact h.row.lt i hi
  · exact h.dn.lt i hi
theorem RPool.fr {S : Nat → Prop} (h : RPool w base r l own D ov dv) (hf : Fr S w w') (hs : ∀ i, RS r ov dv i → ¬ S i) : RPool w' base r l own D ov dv where
  blk := h.blk.fr hf (hs r (Or.inl rfl))
  row := ownsRow_fr h.row hf (fun k hk => hs k (Or.inr (Or.inl hk)))
  dn := ownsRow_fr h.dn hf (fun k hk => hs k (Or.inr (Or.inr hk)))
  hr := h.hr
  ne := h.ne
theorem RPool.fr0 (h : RPool w base r l own D ov dv) (hf : Fr (fun _ => False) w w') : RPool w' base r l own D ov dv := h.fr hf (fun _ _ h => h)
theorem RPool.shape (h : RPool w base r l own D ov dv) : ∃ A cap, ov = .slice A own.length cap := row_shape h.row
theorem RPool.shapeD (h : RPool w base r l own D ov dv) : ∃ A cap, dv = .slice A D.length cap := row_shape h.dn
theorem RPool.elem (h : RPool w base r l own D ov dv) {k : Nat} (hk : k < own.length) : ∃ g cap, ov = .slice (some ⟨g, 0, none⟩) own.length cap ∧ w.cell? ⟨g, k, none⟩ = some (.int .i64 (own[k]'hk)) := row_elem1 encI h.row hk
theorem RPool.elemD (h : RPool w base r l own D ov dv) {k : Nat} (hk : k < D.length) : ∃ g cap, dv = .slice (some ⟨g, 0, none⟩) D.length cap ∧ w.cell? ⟨g, k, none⟩ = some (.int .i64 (D[k]'hk)) := row_elem1 encI h.dn hk
end

set_option maxHeartbeats 400000 in
theorem owner81_any (n : Int) (w : World) : Calls Try.prog 81 #[.int .i64 n] w fun e w' => e = .returned (.bool (mayO n)) ∧ w = w' := by
  unfold mayO
  by_cases h : 0 ≤ n
  · have h1 : decide (0 ≤ n) = true := decide_eq_true h
    have h1' : decide (n ≥ 0) = true := decide_eq_true h
    rw [h1]
    go_enter Try.func81, Try.ntmps81
    go_wp2
    go_ret
    exact ⟨by simp, rfl⟩
  · have h1 : decide (0 ≤ n) = false := decide_eq_false h
    have h1' : decide (n ≥ 0) = false := decide_eq_false h
    rw [h1]
    go_enter Try.func81, Try.ntmps81
    go_wp2
    go_ret
    exact ⟨by simp, rfl⟩

theorem done_step {D : List Int} {n : Int} {k : Nat} (hk : k < D.length) (h : doneR (D.take k) n = false) (hn : ((D[k]'hk) == n) = false) : doneR (D.take (k + 1)) n = false := by
  unfold doneR at *
  rw [List.take_succ_eq_append_getElem hk, List.any_append, h]
  simp [hn]

set_option maxHeartbeats 1000000 in
theorem done75_any (w : World) (base r : Nat) (l : LayD) (own D : List Int) (ov dv : Value) (h : RPool w base r l own D ov dv) (hD : D.length ≤ 100000) (n : Int) (res : Bool) (hres : Hid (res = doneR D n)) :
    Calls Try.prog 75 #[.pointer (some ⟨r, 0, none⟩), .int .i64 n] w fun e w' => e = .returned (.bool res) ∧ w = w' := by
  have c0 := h.blk.cell 3
  have HH := Lib.hid h
  obtain ⟨A, cap, rfl⟩ := h.shapeD
  clear h
  go_enter Try.func75, Try.ntmps75
  go_wp2
  go_loopw [5] (fun i wr => ∃ k : Nat, k ≤ D.length ∧ i = .int .i64 k ∧ Hid (doneR (D.take k) n = false) ∧ w = wr) (fun i _ => D.length - (intOf i).toNat)
  case atStart => exact ⟨0, Nat.zero_le _, rfl, rfl, rfl⟩
  case round =>
    obtain ⟨k, hk, rfl, hkp, rfl⟩ := hrel
    by_cases hlt : k < D.length
    · obtain ⟨g, cp, hv, c1⟩ := HH.out.elemD hlt
      cases hv
      have HST := Lib.hid (fun hn => done_step (n := n) hlt hkp.out hn)
      have HHT := Lib.hid (show (D[k] == n) = true → doneR D n = true from fun hn => by
        unfold doneR
        rw [List.any_eq_true]
        exact ⟨D[k], List.getElem_mem hlt, hn⟩)
      generalize D[k] = y at *
      cases hc : y == n with
      | true =>
        have hc' := Lib.hid hc
        go_wp2
        go_ret
        exact ⟨by rw [hres.out, HHT.out hc'.out]; rfl, rfl⟩
      | false =>
        have hc' := Lib.hid hc
        go_wp2
        go_roundw
        case rel => exact ⟨k + 1, by omega, by go_num, Lib.hid (HST.out hc'.out), trivial⟩
        case measure => simp [intOf]; omega
    · obtain rfl : k = D.length := by omega
      rw [List.take_length] at hkp
      go_wp2
      go_ret
      exact ⟨by rw [hres.out, hkp.out]; rfl, rfl⟩

set_option maxRecDepth 20000 in
set_option maxHeartbeats 1000000 in
theorem having71_any (w : World) (base r : Nat) (l : LayD) (own D : List Int) (ov dv : Value) (h : RPool w base r l own D ov dv) (hO : own.length ≤ 256) (n : Int) :
    Calls Try.prog 71 #[.pointer (some ⟨r, 0, none⟩), .int .i64 n] w fun e w' => e = .returned (valM (havM own n)) ∧ Fr (fun _ => False) w w' := by
  obtain ⟨i0, hi, hz0, hz1, hz2⟩ := info_parts info3
  have h1 := h.fr0 ((Fr.refl _ w).alloc (.cells #[.int .u64 0, .int .u64 0, .int .u64 0, .int .u64 0] 40))
  have c0 := h1.blk.cell 2
  have HZ := Lib.hid (Blk.new w 40 #[.int .u64 0, .int .u64 0, .int .u64 0, .int .u64 0])
  have HF := Lib.hid ((Fr.refl (fun _ => False) w).alloc (.cells #[.int .u64 0, .int .u64 0, .int .u64 0, .int .u64 0] 40))
  have HH := Lib.hid h1
  obtain ⟨A, cap, rfl⟩ := h.shape
  have hM : havM own n = makeM (havL own n own.length) := rfl
  generalize havM own n = M at *
  have HM := Lib.hid hM
  clear h h1 hM
  go_enter Try.func71, Try.ntmps71
  go_wp2
  clear c0
  obtain ⟨w0, hw0⟩ : ∃ w0, w0 = w.alloc (.cells #[.int .u64 0, .int .u64 0, .int .u64 0, .int .u64 0] 40) := ⟨_, rfl⟩
  rw [← hw0] at HH HZ HF ⊢
  clear hw0
  go_loopw [5, 6] (fun v i wr => ∃ k : Nat, k ≤ own.length ∧ i = .int .i64 k ∧ wr.ownsRow w0.heap.size 3 1 v (havL own n k).length ((havL own n k).map encI) ∧ Fr (fun _ => False) w0 wr) (fun _ i _ => own.length - (intOf i).toNat)
  case atStart => exact ⟨0, Nat.zero_le _, rfl, World.ownsRow_nil _ _ _ _, Fr.refl _ _⟩
  case round =>
    obtain ⟨k, hk, rfl, hrow, hfr⟩ := hrel
    have hR := HH.out.fr0 hfr
    have c0 := hR.blk.cell 2
    have hle := havL_len own n k
    by_cases hlt : k < own.length
    · obtain ⟨g, cp, hv, c1⟩ := hR.elem hlt
      cases hv
      have hst := havL_succ own n k
      rw [List.getD_eq_getElem?_getD, List.getElem?_eq_getElem hlt, Option.getD_some] at hst
      generalize own[k] = y at *
      have hkr := hrow.lt
      have hsz := hfr.size
      cases hc : y == n with
      | true =>
        rw [if_pos hc] at hst
        have HST := Lib.hid hst
        clear hst
        go_wp2_with (at_builtin; refine wpList_append_own _ rfl _ _ 24 rfl w0.heap.size 3 i0 (.int .i64 0) 1 8 Try.underlying24 hi hz0 hz1 hz2 rfl (by decide) _ _ _ rfl (hrow.alloc _) ⟨wr.heap.size, 0, none⟩ 1 1 [.int .i64 (k : Nat)] rfl rfl (news_one wr 3 _) (by simp [Value.oneCell']) (by unfold maxLen; omega) (by omega) (by simp; omega) ?_; intro v' w3 hown1 hgrow1 hne1)
        go_roundw
        case rel => exact ⟨k + 1, by omega, by go_num, by rw [HST.out, List.length_append, List.map_append]; exact hown1, (hfr.alloc _).grown hgrow1 (fun q e => Or.inr (hkr q e).1)⟩
        case measure => simp [intOf]; omega
      | false =>
        rw [if_neg (by simp [hc])] at hst
        have HST := Lib.hid hst
        clear hst
        go_wp2
        go_roundw
        case rel => exact ⟨k + 1, by omega, by go_num, by rw [HST.out]; exact hrow, hfr⟩
        case measure => simp [intOf]; omega
    · obtain rfl : k = own.length := by omega
      have hi1 := IntsV.of_row hrow
      have h58 := make_any wr _ _ hi1 (by unfold maxLen; omega)
      rw [← HM.out] at h58
      simp only [valM, Ytcefadbnmpjeiaa.cellsM] at h58
      have H58 := Lib.hid h58
      have HZr := Lib.hid (HZ.out.fr hfr (fun h => h))
      have HFr := Lib.hid (HF.out.then hfr)
      clear h58 hi1 hR hrow
      go_wp2_with fail
      refine H58.out.mono ?_
      rintro e w5 ⟨rfl, hf5⟩
      have hz := HZr.out.fr hf5 (fun h => h)
      obtain ⟨f0, f1, f2, f3⟩ := hz.frozenM
      have y := fun i => hz.cell i
      clear hz c0
      go_wp2_with fail
      (try simp only [Exit.inBlock, Exit.then])
      refine bodyPost_ret (v := .agg #[.int .u64 (wordM M 0 : Nat), .int .u64 (wordM M 1 : Nat), .int .u64 (wordM M 2 : Nat), .int .u64 (wordM M 3 : Nat)]) ?_ rfl ⟨rfl, (HFr.out.then hf5).setM (Or.inr (Nat.le_refl _)) _ _ _ _⟩
      rw [results_cell1 rfl]
      go_simp

set_option maxHeartbeats 400000 in
theorem free40_any (w : World) (base r : Nat) (l : LayD) (own D : List Int) (ov dv : Value) (h : RPool w base r l own D ov dv) (hO : own.length ≤ 256) :
    Calls Try.prog 40 #[.pointer (some ⟨r, 0, none⟩)] w fun e w' => e = .returned (valM (havM own (-1))) ∧ Fr (fun _ => False) w w' := by
  have h71 := having71_any _ base r l own D ov dv (h.fr0 ((Fr.refl _ w).alloc (.cells #[.int .u64 0, .int .u64 0, .int .u64 0, .int .u64 0] 40))) hO (-1)
  have HZ := Lib.hid (Blk.new w 40 #[.int .u64 0, .int .u64 0, .int .u64 0, .int .u64 0])
  have HF := Lib.hid ((Fr.refl (fun _ => False) w).alloc (.cells #[.int .u64 0, .int .u64 0, .int .u64 0, .int .u64 0] 40))
  generalize havM own (-1) = M at *
  simp only [valM, Ytcefadbnmpjeiaa.cellsM] at *
  have H71 := Lib.hid h71
  clear h71 h
  go_enter Try.func40, Try.ntmps40
  go_wp2_with fail
  refine H71.out.mono ?_
  rintro e w5 ⟨rfl, hf5⟩
  have hz := HZ.out.fr hf5 (fun h => h)
  obtain ⟨f0, f1, f2, f3⟩ := hz.frozenM
  have y := fun i => hz.cell i
  clear hz
  go_wp2_with fail
  (try simp only [Exit.inBlock, Exit.then])
  refine bodyPost_ret (v := .agg #[.int .u64 (wordM M 0 : Nat), .int .u64 (wordM M 1 : Nat), .int .u64 (wordM M 2 : Nat), .int .u64 (wordM M 3 : Nat)]) ?_ rfl ⟨rfl, (HF.out.then hf5).setM (Or.inr (Nat.le_refl _)) _ _ _ _⟩
  rw [results_cell1 rfl]
  go_simp

set_option maxHeartbeats 1000000 in
theorem has74_any (w : World) (base r : Nat) (l : LayD) (own D : List Int) (ov dv : Value) (h : RPool w base r l own D ov dv) (hO : own.length ≤ 256) (n : Int) :
    Calls Try.prog 74 #[.pointer (some ⟨r, 0, none⟩), .int .i64 n] w fun e w' => e = .returned (.bool (hasR own n)) ∧ Fr (fun _ => False) w w' := by
  have h81 := fun W => owner81_any n W
  have h71 := having71_any w base r l own D ov dv h hO n
  have hq := fun W => eq_masks (M := havM own n) (M' := 0) (havM_lt _ _) (by decide) 40 Try.underlying40 W
  unfold hasR
  generalize havM own n = M at *
  simp only [valM, zero_cells] at hq
  simp only [valM, Ytcefadbnmpjeiaa.cellsM] at hq h71
  cases hm : mayO n with
  | false =>
    rw [hm] at h81
    have H81 := Lib.hid h81
    clear h81 h71 hq h
    go_enter Try.func74, Try.ntmps74
    go_wp2_with fail
    refine (H81.out _).mono ?_
    rintro e w1 ⟨rfl, rfl⟩
    go_wp2_with fail
    go_ret
    exact ⟨rfl, Fr.refl _ _⟩
  | true =>
    rw [hm] at h81
    have H81 := Lib.hid h81
    have H71 := Lib.hid h71
    clear h81 h71 h hm
    by_cases h0 : M = 0
    · rw [decide_eq_false (fun h => h h0)]
      rw [decide_eq_true h0] at hq
      have HQ := Lib.hid hq
      clear hq h0
      go_enter Try.func74, Try.ntmps74
      go_wp2_with fail
      refine (H81.out _).mono ?_
      rintro e w1 ⟨rfl, rfl⟩
      go_wp2_with fail
      refine (H71.out).mono ?_
      rintro e w1 ⟨rfl, hf1⟩
      have hq := HQ.out
      go_wp2_with fail
      go_ret
      exact ⟨rfl, hf1⟩
    · rw [decide_eq_true (show M ≠ 0 from h0)]
      rw [decide_eq_false h0] at hq
      have HQ := Lib.hid hq
      clear hq h0
      go_enter Try.func74, Try.ntmps74
      go_wp2_with fail
      refine (H81.out _).mono ?_
      rintro e w1 ⟨rfl, rfl⟩
      go_wp2_with fail
      refine (H71.out).mono ?_
      rintro e w1 ⟨rfl, hf1⟩
      have hq := HQ.out
      go_wp2_with fail
      go_ret
      exact ⟨rfl, hf1⟩

end Go.Proofs.Ytcefadbnmpjeiaa

/-
  The reference's pool: Of, Minus, give, New.
-/
namespace Go.Proofs.Ytcefadbnmpjeiaa
open Go.RowKit Go.Maps

section
variable {w w1 : World} {base r : Nat} {l : LayD} {own D : List Int} {ov dv : Value}

theorem RPool.r_ne (h : RPool w base r l own D ov dv) : some r ≠ ov.ownBlock ∧ some r ≠ dv.ownBlock := by
  have hb := h.blk
  unfold Blk at hb
  refine ⟨fun e => ?_, fun e => ?_⟩
  · obtain ⟨cur, hc⟩ := ownsRow_block h.row e.symm
    rw [hb] at hc; cases hc
  · obtain ⟨cur, hc⟩ := ownsRow_block h.dn e.symm
    rw [hb] at hc; cases hc

theorem RPool.setOwn (h : RPool w base r l own D ov dv) {k : Nat} {g cap : Nat} (hv : ov = .slice (some ⟨g, 0, none⟩) own.length cap) (u : Int) :
    RPool (w.setCell ⟨g, k, none⟩ (.int .i64 u)) base r l (own.set k u) D ov dv ∧ Fr (RS r ov dv) w (w.setCell ⟨g, k, none⟩ (.int .i64 u)) := by
  subst hv
  obtain ⟨n1, n2⟩ := h.r_ne
  obtain ⟨h1, h2⟩ := h.row.stored k (.int .i64 u)
  refine ⟨⟨h.blk.grown h2 n1, ?_, h.dn.kept h2 ?_, h.hr, h.ne⟩, (Fr.refl _ w).setCell (p := ⟨g, k, none⟩) (Or.inl (Or.inr (Or.inl rfl))) _⟩
  · rw [List.length_set, List.map_set]
    exact h1
  · exact Or.inr (h.ne g rfl)

theorem RPool.pushD {tmp : Obj} {n : Int} {v' : Value} (h : RPool w base r l own D ov dv) (hown : w1.ownsRow base 3 1 v' (D.length + 1) (D.map encI ++ [.int .i64 n])) (hg : (w.alloc tmp).grownBy w1 dv.ownBlock)
    (hat : v'.ownBlock = dv.ownBlock ∨ v'.ownBlock = some (w.alloc tmp).heap.size) :
    RPool (w1.setCell ⟨r, 3, none⟩ v') base r l own (D ++ [n]) ov v' ∧ Fr (RS r ov dv) w (w1.setCell ⟨r, 3, none⟩ v') ∧ (∀ i, RS r ov v' i → RS r ov dv i ∨ w.heap.size ≤ i) ∧ Blk w1 r 108 #[.int .i64 l.s, .int .i64 l.p, ov, dv] := by
  obtain ⟨n1, n2⟩ := h.r_ne
  rw [World.size_alloc] at hat
  have hb1 := (h.blk.alloc tmp).grown hg n2
  have hrow1 := (h.row.alloc tmp).kept hg (by
    cases hb : ov.ownBlock with
    | none => exact Or.inl rfl
    | some g => exact Or.inr (fun e => h.ne g hb e.symm))
  refine ⟨⟨hb1.set_ 3 v', ownsRow_set hrow1 hb1 (by decide) _ _, ?_, h.hr, fun g hg1 e => ?_⟩, ?_, ?_, hb1⟩
  · rw [List.length_append, List.map_append]
    exact ownsRow_set hown hb1 (by decide) _ _
  · rcases hat with e1 | e1
    · exact h.ne g hg1 (e1 ▸ e)
    · rw [e1] at e
      cases e
      have := (h.row.lt _ hg1).2
      omega
  · exact (((Fr.refl (RS r ov dv) w).alloc tmp).grown hg (fun k e => Or.inl (Or.inr (Or.inr e)))).setCell (p := ⟨r, 3, none⟩) (Or.inl (Or.inl rfl)) _
  · rintro i (rfl | hi | hi)
    · exact Or.inl (Or.inl rfl)
    · exact Or.inl (Or.inr (Or.inl hi))
    · rcases hat with e1 | e1
      · exact Or.inl (Or.inr (Or.inr (e1 ▸ hi)))
      · rw [e1] at hi
        cases hi
        exact Or.inr (by omega)
end

set_option maxHeartbeats 1000000 in
theorem of44_any (w : World) (base r : Nat) (l : LayD) (own D : List Int) (ov dv : Value) (h : RPool w base r l own D ov dv) (hO : own.length ≤ 256) (hD : D.length ≤ 100000) (n : Int) :
    Calls Try.prog 44 #[.pointer (some ⟨r, 0, none⟩), .int .i64 n] w fun e w' => e = .returned (.tuple #[valM (ofR own D n).1, .bool (ofR own D n).2]) ∧ Fr (fun _ => False) w w' := by
  have HF := Lib.hid ((Fr.refl (fun _ => False) w).alloc (.cells #[.int .u64 0, .int .u64 0, .int .u64 0, .int .u64 0] 40))
  have HZ := Lib.hid (Blk.new w 40 #[.int .u64 0, .int .u64 0, .int .u64 0, .int .u64 0])
  have h1 := h.fr0 HF.out
  have h74 := has74_any _ base r l own D ov dv h1 hO n
  have h71 := fun W (hW : RPool W base r l own D ov dv) => having71_any W base r l own D ov dv hW hO n
  have h75 := fun W (hW : RPool W base r l own D ov dv) => done75_any W base r l own D ov dv hW hD n _ rfl
  have HR := Lib.hid h1
  unfold ofR
  cases hb : hasR own n with
  | false =>
    rw [hb] at h74
    have H74 := Lib.hid h74
    rw [if_neg (by simp)]
    clear h74 h71 h75 h1 h hb
    rw [valM, zero_cells]
    go_enter Try.func44, Try.ntmps44
    go_wp2_with fail
    refine H74.out.mono ?_
    rintro e w1 ⟨rfl, hf1⟩
    have hz := HZ.out.fr hf1 (fun h => h)
    obtain ⟨f0, f1, f2, f3⟩ := hz.frozenM
    have y := fun i => hz.cell i
    clear hz
    go_wp2_with fail
    (try simp only [Exit.inBlock, Exit.then])
    refine bodyPost_ret (v := .tuple #[.agg #[.int .u64 0, .int .u64 0, .int .u64 0, .int .u64 0], .bool false]) ?_ rfl ⟨rfl, (HF.out.then hf1).setM (Or.inr (Nat.le_refl _)) _ _ _ _⟩
    rw [results_cell_tmp' rfl]
    go_simp
  | true =>
    rw [hb] at h74
    rw [if_pos rfl]
    have H74 := Lib.hid h74
    generalize havM own n = M at *
    generalize doneR D n = d at *
    simp only [valM, Ytcefadbnmpjeiaa.cellsM] at h71 ⊢
    have H71 := Lib.hid h71
    have H75 := Lib.hid h75
    clear h74 h71 h75 h1 h hb
    go_enter Try.func44, Try.ntmps44
    go_wp2_with fail
    refine H74.out.mono ?_
    rintro e w1 ⟨rfl, hf1⟩
    go_wp2_with fail
    refine (H71.out _ (HR.out.fr0 hf1)).mono ?_
    rintro e w2 ⟨rfl, hf2⟩
    go_wp2_with fail
    refine (H75.out _ (HR.out.fr0 (hf1.then hf2))).mono ?_
    rintro e w3 ⟨rfl, rfl⟩
    have hz := HZ.out.fr (hf1.then hf2) (fun h => h)
    obtain ⟨f0, f1, f2, f3⟩ := hz.frozenM
    have y := fun i => hz.cell i
    clear hz
    go_wp2_with fail
    (try simp only [Exit.inBlock, Exit.then])
    refine bodyPost_ret (v := .tuple #[.agg #[.int .u64 (wordM M 0 : Nat), .int .u64 (wordM M 1 : Nat), .int .u64 (wordM M 2 : Nat), .int .u64 (wordM M 3 : Nat)], .bool d]) ?_ rfl ⟨rfl, ((HF.out.then hf1).then hf2).setM (Or.inr (Nat.le_refl _)) _ _ _ _⟩
    rw [results_cell_tmp' rfl]
    go_simp

/-- The reference's list for Minus. -/
def minL (M N : Nat) (k : Nat) : List Int := (upTo k).filter fun c => hasM M c && !hasM N c
theorem minL_succ (M N k : Nat) : minL M N (k + 1) = if (hasM M (k : Int) && !hasM N (k : Int)) = true then minL M N k ++ [(k : Int)] else minL M N k := by
  unfold minL
  rw [upTo_succ, List.filter_append]
  by_cases h : (hasM M (k : Int) && !hasM N (k : Int)) = true
  · rw [if_pos h, List.filter_cons_of_pos (p := fun c => hasM M c && !hasM N c) h]; rfl
  · rw [if_neg h, List.filter_cons_of_neg (p := fun c => hasM M c && !hasM N c) h]; simp
theorem minL_len (M N k : Nat) : (minL M N k).length ≤ k := Nat.le_trans (List.length_filter_le _ _) (by rw [upTo_len]; exact Nat.le_refl _)
theorem mem_upTo {k : Nat} (i : Nat) : (i : Int) ∈ upTo k ↔ i < k := by
  unfold upTo
  rw [List.mem_map]
  constructor
  · rintro ⟨a, ha, e⟩
    have := List.mem_range.1 ha
    omega
  · intro h
    exact ⟨i, List.mem_range.2 h, rfl⟩
theorem hasM_nat (M i : Nat) (hi : i < 256) : hasM M (i : Int) = M.testBit i := by
  unfold hasM
  rw [decide_eq_true (by omega : (0 : Int) ≤ (i : Int) ∧ (i : Int) < 256), Bool.true_and, Int.toNat_natCast]
theorem minL_make {M : Nat} (hM : M < 2 ^ 256) (N : Nat) : makeM (minL M N 256) = minusM M N := by
  refine Nat.eq_of_testBit_eq fun i => ?_
  unfold minusM
  rw [Nat.testBit_xor, Nat.testBit_and]
  by_cases hi : i < 256
  · rw [Bool.eq_iff_iff, makeM_mem _ _ hi]
    unfold minL
    rw [List.mem_filter, mem_upTo, hasM_nat _ _ hi, hasM_nat _ _ hi]
    cases M.testBit i <;> cases N.testBit i <;> simp [hi]
  · rw [makeM_big _ _ (by omega), Nat.testBit_lt_two_pow (Nat.lt_of_lt_of_le hM (Nat.pow_le_pow_right (by decide) (by omega)))]
    rfl

set_option maxRecDepth 20000 in
set_option maxHeartbeats 1000000 in
theorem minus83_any (M N : Nat) (hM : M < 2 ^ 256) (w : World) : Calls Try.prog 83 #[valM M, valM N] w fun e w' => e = .returned (valM (minusM M N)) ∧ Fr (fun _ => False) w w' := by
  obtain ⟨i0, hi, hz0, hz1, hz2⟩ := info_parts info3
  have hm := minL_make hM N
  generalize minusM M N = X at *
  have HM := Lib.hid hm
  clear hm hM
  have HF := Lib.hid ((((Fr.refl (fun _ => False) w).alloc (.cells (cellsM M) 40)).alloc (.cells (cellsM N) 40)).alloc (.cells #[.int .u64 0, .int .u64 0, .int .u64 0, .int .u64 0] 40))
  have HA := Lib.hid (((Blk.new w 40 (cellsM M)).alloc (.cells (cellsM N) 40)).alloc (.cells #[.int .u64 0, .int .u64 0, .int .u64 0, .int .u64 0] 40))
  have hb := ((Blk.new (w.alloc (.cells (cellsM M) 40)) 40 (cellsM N)).alloc (.cells #[.int .u64 0, .int .u64 0, .int .u64 0, .int .u64 0] 40))
  have hz := Blk.new ((w.alloc (.cells (cellsM M) 40)).alloc (.cells (cellsM N) 40)) 40 #[.int .u64 0, .int .u64 0, .int .u64 0, .int .u64 0]
  rw [World.size_alloc] at hb hz
  rw [World.size_alloc] at hz
  have HB := Lib.hid hb
  have HZ := Lib.hid hz
  clear hb hz
  simp only [valM, Ytcefadbnmpjeiaa.cellsM] at *
  go_enter Try.func83, Try.ntmps83
  go_wp2
  obtain ⟨w0, hw0⟩ : ∃ w0, w0 = ((w.alloc (.cells #[.int .u64 (wordM M 0 : Nat), .int .u64 (wordM M 1 : Nat), .int .u64 (wordM M 2 : Nat), .int .u64 (wordM M 3 : Nat)] 40)).alloc (.cells #[.int .u64 (wordM N 0 : Nat), .int .u64 (wordM N 1 : Nat), .int .u64 (wordM N 2 : Nat), .int .u64 (wordM N 3 : Nat)] 40)).alloc (.cells #[.int .u64 0, .int .u64 0, .int .u64 0, .int .u64 0] 40) := ⟨_, rfl⟩
  rw [← hw0] at HA HB HZ HF ⊢
  clear hw0
  go_loopw [5, 6] (fun v i wr => ∃ k : Nat, k ≤ 256 ∧ i = .int .i64 k ∧ wr.ownsRow w0.heap.size 3 1 v (minL M N k).length ((minL M N k).map encI) ∧ Fr (fun _ => False) w0 wr) (fun _ i _ => 256 - (intOf i).toNat)
  case atStart => exact ⟨0, Nat.zero_le _, rfl, World.ownsRow_nil _ _ _ _, Fr.refl _ _⟩
  case round =>
    obtain ⟨k, hk, rfl, hrow, hfr⟩ := hrel
    by_cases hlt : k < 256
    · have hA := HA.out.fr hfr (fun h => h)
      have hB := HB.out.fr hfr (fun h => h)
      have ya := fun i => hA.cell i
      have hst := minL_succ M N k
      have hle := minL_len M N k
      have h57 := fun W => rhas_any M (k : Int) W
      have h57' := fun W => rhas_any N (k : Int) W
      simp only [valM, Ytcefadbnmpjeiaa.cellsM] at h57 h57'
      have b1 : decide ((k : Int) < 256) = true := decide_eq_true (by omega)
      have HBr := Lib.hid hB
      have HROW := Lib.hid hrow
      clear hA hB hrow
      cases hma : hasM M (k : Int) with
      | false =>
        rw [hma] at h57 hst
        have H57 := Lib.hid h57
        rw [if_neg (by simp)] at hst
        have HST := Lib.hid hst
        clear h57 h57' hst hma
        go_wp2_with fail
        refine (H57.out _).mono ?_
        rintro e w1 ⟨rfl, hf1⟩
        go_wp2_with fail
        go_roundw
        case rel => exact ⟨k + 1, by omega, by go_num, by rw [HST.out]; exact ownsRow_fr HROW.out hf1 (fun _ _ h => h), hfr.then hf1⟩
        case measure => simp [intOf]; omega
      | true =>
        cases hnb : hasM N (k : Int) with
        | true =>
          rw [hma, hnb] at hst
          rw [hma] at h57
          rw [hnb] at h57'
          have H57 := Lib.hid h57
          have H57' := Lib.hid h57'
          rw [if_neg (by simp)] at hst
          have HST := Lib.hid hst
          clear h57 h57' hst hma hnb
          go_wp2_with fail
          refine (H57.out _).mono ?_
          rintro e w1 ⟨rfl, hf1⟩
          have hB1 := HBr.out.fr hf1 (fun h => h)
          have yb := fun i => hB1.cell i
          clear hB1
          go_wp2_with fail
          refine (H57'.out _).mono ?_
          rintro e w2 ⟨rfl, hf2⟩
          go_wp2_with fail
          go_roundw
          case rel => exact ⟨k + 1, by omega, by go_num, by rw [HST.out]; exact ownsRow_fr HROW.out (hf1.then hf2) (fun _ _ h => h), hfr.then (hf1.then hf2)⟩
          case measure => simp [intOf]; omega
        | false =>
          rw [hma, hnb] at hst
          rw [hma] at h57
          rw [hnb] at h57'
          have H57 := Lib.hid h57
          have H57' := Lib.hid h57'
          rw [if_pos (by simp)] at hst
          have HST := Lib.hid hst
          clear h57 h57' hst hma hnb
          go_wp2_with fail
          refine (H57.out _).mono ?_
          rintro e w1 ⟨rfl, hf1⟩
          have hB1 := HBr.out.fr hf1 (fun h => h)
          have yb := fun i => hB1.cell i
          clear hB1
          go_wp2_with fail
          refine (H57'.out _).mono ?_
          rintro e w2 ⟨rfl, hf2⟩
          have hrow2 := ownsRow_fr HROW.out (hf1.then hf2) (fun _ _ h => h)
          have hkr := hrow2.lt
          have hsz := ((hfr.then hf1).then hf2).size
          go_wp2_with (at_builtin; refine wpList_append_own _ rfl _ _ 24 rfl w0.heap.size 3 i0 (.int .i64 0) 1 8 Try.underlying24 hi hz0 hz1 hz2 rfl (by decide) _ _ _ rfl (hrow2.alloc _) ⟨w2.heap.size, 0, none⟩ 1 1 [.int .i64 (k : Nat)] rfl rfl (news_one w2 3 _) (by simp [Value.oneCell']) (by unfold maxLen; omega) (by omega) (by simp; omega) ?_; intro v' w3 hown1 hgrow1 hne1)
          go_roundw
          case rel => exact ⟨k + 1, by omega, by go_num, by rw [HST.out, List.length_append, List.map_append]; exact hown1, ((hfr.then (hf1.then hf2)).alloc _).grown hgrow1 (fun q e => Or.inr (hkr q e).1)⟩
          case measure => simp [intOf]; omega
    · obtain rfl : k = 256 := by omega
      have hi1 := IntsV.of_row hrow
      have hle := minL_len M N 256
      have h58 := make_any wr _ _ hi1 (by unfold maxLen; omega)
      rw [HM.out] at h58
      simp only [valM, Ytcefadbnmpjeiaa.cellsM] at h58
      have H58 := Lib.hid h58
      have HZr := Lib.hid (HZ.out.fr hfr (fun h => h))
      have HFr := Lib.hid (HF.out.then hfr)
      clear h58 hi1 hrow
      go_wp2_with fail
      refine H58.out.mono ?_
      rintro e w5 ⟨rfl, hf5⟩
      have hz := HZr.out.fr hf5 (fun h => h)
      obtain ⟨f0, f1, f2, f3⟩ := hz.frozenM
      have y := fun i => hz.cell i
      clear hz
      go_wp2_with fail
      (try simp only [Exit.inBlock, Exit.then])
      refine bodyPost_ret (v := .agg #[.int .u64 (wordM X 0 : Nat), .int .u64 (wordM X 1 : Nat), .int .u64 (wordM X 2 : Nat), .int .u64 (wordM X 3 : Nat)]) ?_ rfl ⟨rfl, (HFr.out.then hf5).setM (Or.inr (by omega)) _ _ _ _⟩
      rw [results_cell1 rfl]
      go_simp

set_option maxRecDepth 20000 in
set_option maxHeartbeats 1000000 in
theorem give82_any (w : World) (base r : Nat) (l : LayD) (own D : List Int) (ov dv : Value) (h : RPool w base r l own D ov dv) (hO : own.length ≤ 256) (n : Int) (M : Nat) :
    Calls Try.prog 82 #[.pointer (some ⟨r, 0, none⟩), .int .i64 n, valM M] w fun e w' => e = .returned (.tuple #[]) ∧ RPool w' base r l (giveL own n M) D ov dv ∧ Fr (RS r ov dv) w w' := by
  have HX := Lib.hid (Blk.new w 40 (cellsM M))
  have HF := Lib.hid ((Fr.refl (RS r ov dv) w).alloc (.cells (cellsM M) 40))
  have h1 := h.fr0 ((Fr.refl (fun _ => False) w).alloc (.cells (cellsM M) 40))
  have HR := Lib.hid h1
  have hnx : ∀ i, RS r ov dv i → i ≠ w.heap.size := fun i hi => by have := (h.ge hi).2; omega
  have HNX := Lib.hid hnx
  obtain ⟨A, cap, rfl⟩ := h.shape
  simp only [valM, Ytcefadbnmpjeiaa.cellsM] at *
  clear h h1 hnx
  go_enter Try.func82, Try.ntmps82
  go_wp2
  go_loopw [6] (fun i wr => ∃ k : Nat, k ≤ own.length ∧ i = .int .i64 k ∧ RPool wr base r l (giveK own n M k) D (.slice A own.length cap) dv ∧ Blk wr w.heap.size 40 #[.int .u64 (wordM M 0 : Nat), .int .u64 (wordM M 1 : Nat), .int .u64 (wordM M 2 : Nat), .int .u64 (wordM M 3 : Nat)] ∧ Fr (RS r (.slice A own.length cap) dv) w wr) (fun i _ => own.length - (intOf i).toNat)
  case atStart => exact ⟨0, Nat.zero_le _, rfl, by rw [giveK_zero]; exact HR.out, HX.out, HF.out⟩
  case round =>
    obtain ⟨k, hk, rfl, hR, hX, hfr⟩ := hrel
    have c2 := hR.blk.cell 2
    by_cases hlt : k < own.length
    · have y := fun i => hX.cell i
      have h57 := fun W => rhas_any M (k : Int) W
      simp only [valM, Ytcefadbnmpjeiaa.cellsM] at h57
      have HRk := Lib.hid hR
      have HXk := Lib.hid hX
      clear hR hX
      cases hb : hasM M (k : Int) with
      | false =>
        rw [hb] at h57
        have H57 := Lib.hid h57
        have HST := Lib.hid (giveK_no (own := own) (n := n) hb)
        clear h57 hb
        go_wp2_with fail
        refine (H57.out _).mono ?_
        rintro e w1 ⟨rfl, hf1⟩
        go_wp2_with fail
        go_roundw
        case rel => exact ⟨k + 1, by omega, by go_num, by rw [HST.out]; exact HRk.out.fr0 hf1, HXk.out.fr hf1 (fun h => h), hfr.trans hf1 (fun _ _ h => h.elim)⟩
        case measure => simp [intOf]; omega
      | true =>
        rw [hb] at h57
        have H57 := Lib.hid h57
        have HST := Lib.hid (giveK_yes (n := n) hlt hb)
        clear h57 hb
        go_wp2_with fail
        refine (H57.out _).mono ?_
        rintro e w1 ⟨rfl, hf1⟩
        have hR1 := HRk.out.fr0 hf1
        have hlg := giveK_len own n M k
        obtain ⟨g, cp, hv, c1⟩ := hR1.elem (k := k) (by rw [hlg]; exact hlt)
        rw [hlg] at hv
        cases hv
        have e2 := hR1.blk.cell 2
        have hfz := World.ownsRow.frozenAt (by have := hR1.row; rw [hlg] at this; exact this) k
        obtain ⟨hS, hSf⟩ := hR1.setOwn (k := k) (g := g) (cap := cap) (by rw [hlg]) n
        rw [HST.out] at hS
        have hgx := HNX.out g (Or.inr (Or.inl rfl))
        have hX1 := (HXk.out.fr hf1 (fun h => h)).far (p := ⟨g, k, none⟩) (fun e => hgx e.symm) (.int .i64 n)
        have HS := Lib.hid hS
        have HSf := Lib.hid hSf
        have HX1 := Lib.hid hX1
        clear hR1 hS hSf hX1 c2
        go_wp2_with fail
        go_roundw
        case rel => exact ⟨k + 1, by omega, by go_num, HS.out, HX1.out, (hfr.trans hf1 (fun _ _ h => h.elim)).then HSf.out⟩
        case measure => simp [intOf]; omega
    · obtain rfl : k = own.length := by omega
      have hlg := giveK_len own n M own.length
      go_wp2
      go_end0
      exact ⟨rfl, hR, hfr⟩

end Go.Proofs.Ytcefadbnmpjeiaa

/-
  The reference's pool: New, Reserve, Take, Commit, Release.
-/
namespace Go.Proofs.Ytcefadbnmpjeiaa
open Go.RowKit Go.Maps

theorem RPool.pushO {w w1 : World} {base r : Nat} {l : LayD} {own : List Int} {ov : Value} {tmp : Obj} {n : Int} {v' : Value} (h : RPool w base r l own [] ov (.slice none 0 0)) (hown : w1.ownsRow base 3 1 v' (own.length + 1) (own.map encI ++ [.int .i64 n])) (hg : (w.alloc tmp).grownBy w1 ov.ownBlock) :
    RPool (w1.setCell ⟨r, 2, none⟩ v') base r l (own ++ [n]) [] v' (.slice none 0 0) ∧ Blk w1 r 108 #[.int .i64 l.s, .int .i64 l.p, ov, .slice none 0 0] := by
  obtain ⟨n1, n2⟩ := h.r_ne
  have hb1 := (h.blk.alloc tmp).grown hg n1
  refine ⟨⟨hb1.set_ 2 v', ?_, World.ownsRow_nil _ _ _ _, h.hr, fun g _ e => by cases e⟩, hb1⟩
  rw [List.length_append, List.map_append]
  exact ownsRow_set hown hb1 (by decide) _ _

set_option maxHeartbeats 400000 in
theorem new37_nil (l : LayD) (hl : l.check ≠ 0) (w : World) : Calls Try.prog 37 #[l.val] w fun e w' => e = .returned (.pointer none) ∧ Fr (fun _ => False) w w' := by
  have h19 := fun W => check19_any l W
  have hb : (l.check != 0) = true := by simpa using hl
  generalize l.check = ck at *
  obtain ⟨s, p⟩ := l
  simp only [LayD.val] at *
  have H19 := Lib.hid h19
  clear h19 hl
  go_enter Try.func37, Try.ntmps37
  go_wp2_with fail
  refine (H19.out _).mono ?_
  rintro e w1 ⟨rfl, hf1⟩
  go_wp2_with fail
  go_ret
  exact ⟨rfl, ((Fr.refl _ w).alloc _).then hf1⟩

set_option maxRecDepth 20000 in
set_option maxHeartbeats 1000000 in
theorem new37_any (l : LayD) (hl : l.check = 0) (w : World) : Calls Try.prog 37 #[l.val] w fun e w' => ∃ r ov, e = .returned (.pointer (some ⟨r, 0, none⟩)) ∧ RPool w' w.heap.size r l (List.replicate l.count.toNat (-1)) [] ov (.slice none 0 0) ∧ Fr (fun _ => False) w w' := by
  obtain ⟨i0, hi, hz0, hz1, hz2⟩ := info_parts info3
  have h19 := fun W => check19_any l W
  rw [hl] at h19
  have h51 := fun W => count51_any l W
  have hb := l.count_bound
  obtain ⟨n, hn⟩ : ∃ n : Nat, l.count = (n : Int) := ⟨l.count.toNat, by omega⟩
  rw [hn] at h51 hb ⊢
  rw [Int.toNat_natCast]
  have HBX := Lib.hid (Blk.new w 23 #[.int .i64 l.s, .int .i64 l.p])
  have HF := Lib.hid ((Fr.refl (fun _ => False) w).alloc (.cells #[.int .i64 l.s, .int .i64 l.p] 23))
  clear hl hn
  obtain ⟨s, p⟩ := l
  simp only [LayD.val] at *
  have H19 := Lib.hid h19
  have H51 := Lib.hid h51
  clear h19 h51
  go_enter Try.func37, Try.ntmps37
  go_wp2_with fail
  refine (H19.out _).mono ?_
  rintro e w1 ⟨rfl, hf1⟩
  have HF1 := Lib.hid (HF.out.then hf1)
  have hb1 := HBX.out.fr hf1 (fun h => h)
  have y := fun i => hb1.cell i
  have HB1 := Lib.hid (hb1.alloc (.cells #[.int .i64 s, .int .i64 p, .slice none 0 0, .slice none 0 0] 108))
  have HR := Lib.hid (show RPool (w1.alloc (.cells #[.int .i64 s, .int .i64 p, .slice none 0 0, .slice none 0 0] 108)) w.heap.size w1.heap.size ⟨s, p⟩ [] [] (.slice none 0 0) (.slice none 0 0) from
    ⟨Blk.new w1 108 _, World.ownsRow_nil _ _ _ _, World.ownsRow_nil _ _ _ _, HF1.out.size, fun g e => by cases e⟩)
  have hsz1 := HF1.out.size
  clear hb1 hf1
  go_wp2_with fail
  clear y
  go_loopw [4] (fun i wr => ∃ (k : Nat) (ov : Value), k ≤ n ∧ i = .int .i64 k ∧ RPool wr w.heap.size w1.heap.size ⟨s, p⟩ (List.replicate k (-1)) [] ov (.slice none 0 0) ∧ Blk wr w.heap.size 23 #[.int .i64 s, .int .i64 p] ∧ Fr (fun _ => False) w wr) (fun i _ => n - (intOf i).toNat)
  case atStart => exact ⟨0, _, Nat.zero_le _, rfl, HR.out, HB1.out, HF1.out.alloc _⟩
  case round =>
    obtain ⟨k, ov, hk, rfl, hR, hB, hfr⟩ := hrel
    have y := fun i => hB.cell i
    obtain ⟨oA, ocap, rfl⟩ : ∃ A cap, ov = .slice A k cap := by simpa using hR.shape
    have HRk := Lib.hid hR
    have HBk := Lib.hid hB
    clear hR hB
    by_cases hlt : k < n
    · have b1 : decide ((k : Int) < (n : Int)) = true := decide_eq_true (by omega)
      go_wp2_with fail
      refine (H51.out _).mono ?_
      rintro e w2 ⟨rfl, hf2⟩
      have hR2 := HRk.out.fr0 hf2
      have hB2 := HBk.out.fr hf2 (fun h => h)
      have hF2 := hfr.then hf2
      have e2 := hR2.blk.cell 2
      have hrow := hR2.row
      rw [List.length_replicate] at hrow
      have hsz := hF2.size
      have hkr := hrow.lt
      have HR2 := Lib.hid hR2
      have HB2 := Lib.hid hB2
      have HF2 := Lib.hid hF2
      have hnn : w.heap.size ≠ w1.heap.size := by have := HB1.out.lt; have := HRk.out.blk; intro e; rw [e] at hB2; exact absurd (hB2.uniq hR2.blk).1 (by decide)
      clear hR2 hB2 hF2 y
      go_wp2_with (at_builtin; refine wpList_append_own _ rfl _ _ 24 rfl w.heap.size 3 i0 (.int .i64 0) 1 8 Try.underlying24 hi hz0 hz1 hz2 rfl (by decide) _ _ _ rfl (hrow.alloc _) ⟨w2.heap.size, 0, none⟩ 1 1 [.int .i64 (-1)] rfl rfl (news_one w2 3 _) (by simp [Value.oneCell']) (by unfold maxLen; omega) (by omega) (by simp; omega) ?_; intro v' w3 hown1 hgrow1 hne1; obtain ⟨g', cap1, rfl⟩ := row_succ hown1; have hpp := HR2.out.pushO (n := -1) (w1 := w3) (by rw [List.length_replicate]; exact hown1) hgrow1; have hfz := hpp.2.frozen 2; have e3 := hpp.2.cell 2; have HPP := Lib.hid hpp; clear hpp)
      go_roundw
      case rel =>
        refine ⟨k + 1, .slice (some ⟨g', 0, none⟩) (k + 1) cap1, by omega, by go_num, ?_, ?_, ?_⟩
        · rw [List.replicate_succ']
          exact HPP.out.1
        · have hg2 := (HB2.out.alloc (.cells #[.int .i64 (-1)] 3)).grown hgrow1 (fun e => by
            obtain ⟨cur, hc⟩ := ownsRow_block hrow e.symm
            have := HB2.out
            unfold Blk at this
            rw [this] at hc
            cases hc)
          exact hg2.far (p := ⟨w1.heap.size, 2, none⟩) hnn _
        · exact ((HF2.out.alloc _).grown hgrow1 (fun q e => Or.inr (hkr q e).1)).setCell (p := ⟨w1.heap.size, 2, none⟩) (Or.inr hsz1) _
      case measure => simp [intOf]; omega
    · obtain rfl : k = n := by omega
      have b1 : decide ((k : Int) < (k : Int)) = false := decide_eq_false (by omega)
      go_wp2_with fail
      refine (H51.out _).mono ?_
      rintro e w2 ⟨rfl, hf2⟩
      go_wp2_with fail
      go_ret
      exact ⟨_, _, rfl, HRk.out.fr0 hf2, hfr.then hf2⟩

def commitR (own D : List Int) (n : Int) : Int × List Int := if hasR own n then (if doneR D n then (14, D) else (0, D ++ [n])) else (14, D)

/-- What the reference's state becomes. -/
structure RNext (w w' : World) (base r : Nat) (l : LayD) (own D : List Int) (ov dv : Value) : Prop where
  ex : ∃ dv', RPool w' base r l own D ov dv' ∧ ∀ i, RS r ov dv' i → RS r ov dv i ∨ w.heap.size ≤ i
  fr : Fr (RS r ov dv) w w'

set_option maxRecDepth 20000 in
set_option maxHeartbeats 1000000 in
theorem commit69_any (w : World) (base r : Nat) (l : LayD) (own D : List Int) (ov dv : Value) (h : RPool w base r l own D ov dv) (hb : base ≤ w.heap.size) (hO : own.length ≤ 256) (hD : D.length < 100000) (n : Int) (res : Int × List Int) (hres : Hid (res = commitR own D n)) :
    Calls Try.prog 69 #[.pointer (some ⟨r, 0, none⟩), .int .i64 n] w fun e w' => e = .returned (.int .i64 res.1) ∧ RNext w w' base r l own res.2 ov dv := by
  obtain ⟨i0, hi, hz0, hz1, hz2⟩ := info_parts info3
  have h74 := has74_any w base r l own D ov dv h hO n
  have h75 := fun W (hW : RPool W base r l own D ov dv) => done75_any W base r l own D ov dv hW (by omega) n _ rfl
  have HR := Lib.hid h
  obtain ⟨dA, dcap, rfl⟩ := h.shapeD
  unfold commitR at hres
  cases hh : hasR own n with
  | false =>
    rw [hh] at h74 hres
    have H74 := Lib.hid h74
    rw [if_neg (by simp)] at hres
    obtain rfl := hres.out
    clear h74 h75 hh h
    go_enter Try.func69, Try.ntmps69
    go_wp2_with fail
    refine H74.out.mono ?_
    rintro e w1 ⟨rfl, hf1⟩
    go_wp2_with fail
    go_ret
    exact ⟨rfl, ⟨_, HR.out.fr0 hf1, fun i hi => Or.inl hi⟩, hf1.mono (fun _ _ h => h.elim)⟩
  | true =>
    rw [hh] at h74 hres
    have H74 := Lib.hid h74
    rw [if_pos rfl] at hres
    cases hd : doneR D n with
    | true =>
      rw [hd] at h75 hres
      rw [if_pos rfl] at hres
      obtain rfl := hres.out
      have H75 := Lib.hid h75
      clear h74 h75 hh hd h
      go_enter Try.func69, Try.ntmps69
      go_wp2_with fail
      refine H74.out.mono ?_
      rintro e w1 ⟨rfl, hf1⟩
      go_wp2_with fail
      refine (H75.out _ (HR.out.fr0 hf1)).mono ?_
      rintro e w2 ⟨rfl, rfl⟩
      go_wp2_with fail
      go_ret
      exact ⟨rfl, ⟨_, HR.out.fr0 hf1, fun i hi => Or.inl hi⟩, hf1.mono (fun _ _ h => h.elim)⟩
    | false =>
      rw [hd] at h75 hres
      rw [if_neg (by simp)] at hres
      obtain rfl := hres.out
      have H75 := Lib.hid h75
      clear h74 h75 hh hd h
      go_enter Try.func69, Try.ntmps69
      go_wp2_with fail
      refine H74.out.mono ?_
      rintro e w1 ⟨rfl, hf1⟩
      go_wp2_with fail
      refine (H75.out _ (HR.out.fr0 hf1)).mono ?_
      rintro e w2 ⟨rfl, rfl⟩
      have hR1 := HR.out.fr0 hf1
      have hsz := hf1.size
      have hrow := hR1.dn
      have e3 := hR1.blk.cell 3
      have HR1 := Lib.hid hR1
      clear hR1
      go_wp2_with (at_builtin; refine wpList_append_own_at _ rfl _ _ 24 rfl base 3 i0 (.int .i64 0) 1 8 Try.underlying24 hi hz0 hz1 hz2 rfl (by decide) _ _ _ rfl (hrow.alloc _) ⟨w1.heap.size, 0, none⟩ 1 1 [.int .i64 n] rfl rfl (news_one w1 3 _) (by simp [Value.oneCell']) (by unfold maxLen; omega) (by omega) (by simp; omega) ?_; intro v' w3 hown1 hgrow1 hne1 hat1; obtain ⟨g', cap1, rfl⟩ := row_succ hown1; have hpp := HR1.out.pushD (n := n) hown1 hgrow1 hat1; have hfz := hpp.2.2.2.frozen 3; have e4 := hpp.2.2.2.cell 3; have HPP := Lib.hid hpp; clear hpp)
      go_ret
      obtain ⟨p1, p2, p3, _⟩ := HPP.out
      exact ⟨rfl, ⟨_, p1, fun i hi => (p3 i hi).imp id (fun h => Nat.le_trans hsz h)⟩, (hf1.mono (fun _ _ h => h.elim)).then p2⟩

def giveAll (own : List Int) (n : Int) (Ms : List Nat) : List Int := Ms.foldl (fun o M => giveL o n M) own
theorem giveAll_len (own : List Int) (n : Int) (Ms : List Nat) : (giveAll own n Ms).length = own.length := by
  unfold giveAll
  induction Ms generalizing own with
  | nil => rfl
  | cons M r ih => rw [List.foldl_cons, ih, giveL_len]
theorem giveAll_take {own : List Int} {n : Int} {Ms : List Nat} {k : Nat} (hk : k < Ms.length) : giveAll own n (Ms.take (k + 1)) = giveL (giveAll own n (Ms.take k)) n (Ms[k]'hk) := by
  unfold giveAll
  rw [List.take_succ_eq_append_getElem hk, List.foldl_append]
  rfl

def reserveR (l : LayD) (own : List Int) (n : Int) (x : WishD) : (List Nat × Int) × List Int :=
  if mayO n then (if hasR own n then (([], 14), own) else (refP l (wishP x (havM own (-1))), giveAll own n (refP l (wishP x (havM own (-1)))).1)) else (([], 1), own)

set_option maxRecDepth 20000 in
set_option maxHeartbeats 2000000 in
theorem reserve66_any (w : World) (base r : Nat) (l : LayD) (own D : List Int) (ov dv : Value) (h : RPool w base r l own D ov dv) (hO : own.length ≤ 256) (n : Int) (x : WishD) (res : (List Nat × Int) × List Int) (hres : Hid (res = reserveR l own n x)) :
    Calls Try.prog 66 #[.pointer (some ⟨r, 0, none⟩), .int .i64 n, x.val] w fun e w' => ∃ v, e = .returned (.tuple #[v, .int .i64 res.1.2]) ∧ w'.ownsRow w.heap.size 40 4 v res.1.1.length (flatM res.1.1) ∧ RPool w' base r l res.2 D ov dv ∧ Fr (RS r ov dv) w w' := by
  have HF := Lib.hid ((Fr.refl (fun _ => False) w).alloc (.cells x.cells 45))
  have HX := Lib.hid (Blk.new w 45 x.cells)
  have hp0 := h.fr0 HF.out
  have HP0 := Lib.hid hp0
  have h81 := fun W => owner81_any n W
  have h74 := has74_any _ base r l own D ov dv hp0 hO n
  have h40 := fun W (hW : RPool W base r l own D ov dv) => free40_any W base r l own D ov dv hW hO
  have h82 := fun W own' M (hW : RPool W base r l own' D ov dv) (hl : own'.length ≤ 256) => give82_any W base r l own' D ov dv hW hl n M
  have hrl := h.blk.lt
  have HNX := Lib.hid (fun i (hi : RS r ov dv i) => (h.ge hi).2)
  unfold reserveR at hres
  obtain ⟨F, hF⟩ : ∃ F, havM own (-1) = F := ⟨_, rfl⟩
  simp only [hF] at h40 hres
  clear hF
  have h26 := fun W => assign26_any l (wishP x F) W
  have hlen : (refP l (wishP x F)).1.length ≤ 32 := refP_len _ _
  generalize hA : refP l (wishP x F) = A at *
  obtain ⟨Ms, ae⟩ := A
  clear hA
  obtain ⟨F0, rk, q, d⟩ := x
  simp only [wishP, WishD.val, WishD.cells] at *
  cases hm : mayO n with
  | false =>
    rw [hm] at h81 hres
    rw [if_neg (by simp)] at hres
    obtain rfl := hres.out
    have H81 := Lib.hid h81
    clear h81 h74 h40 h82 h26 hp0 h hm
    go_enter Try.func66, Try.ntmps66
    go_wp2_with fail
    refine (H81.out _).mono ?_
    rintro e w1 ⟨rfl, rfl⟩
    go_wp2_with fail
    go_ret2
    exact ⟨_, rfl, World.ownsRow_nil _ _ _ _, HP0.out, HF.out.mono (fun _ _ h => h.elim)⟩
  | true =>
    rw [hm] at h81 hres
    rw [if_pos rfl] at hres
    have H81 := Lib.hid h81
    cases hh : hasR own n with
    | true =>
      rw [hh] at h74 hres
      rw [if_pos rfl] at hres
      obtain rfl := hres.out
      have H74 := Lib.hid h74
      clear h81 h74 h40 h82 h26 hp0 h hm hh
      go_enter Try.func66, Try.ntmps66
      go_wp2_with fail
      refine (H81.out _).mono ?_
      rintro e w1 ⟨rfl, rfl⟩
      go_wp2_with fail
      refine H74.out.mono ?_
      rintro e w1 ⟨rfl, hf1⟩
      go_wp2_with fail
      go_ret2
      exact ⟨_, rfl, World.ownsRow_nil _ _ _ _, HP0.out.fr0 hf1, (HF.out.then hf1).mono (fun _ _ h => h.elim)⟩
    | false =>
      rw [hh] at h74 hres
      rw [if_neg (by simp)] at hres
      have H74 := Lib.hid h74
      obtain ⟨s, p⟩ := l
      simp only [LayD.val, valM, Ytcefadbnmpjeiaa.cellsM] at *
      have H40 := Lib.hid h40
      have H82 := Lib.hid h82
      have H26 := Lib.hid h26
      clear h81 h74 h40 h82 h26 hp0 h hm hh
      go_enter Try.func66, Try.ntmps66
      go_wp2_with fail
      refine (H81.out _).mono ?_
      rintro e w1 ⟨rfl, rfl⟩
      go_wp2_with fail
      refine H74.out.mono ?_
      rintro e w1 ⟨rfl, hf1⟩
      have HF1 := Lib.hid (HF.out.then hf1)
      have HP1 := Lib.hid (HP0.out.fr0 hf1)
      have HX1 := Lib.hid (HX.out.fr hf1 (fun h => h))
      go_wp2_with fail
      refine (H40.out _ HP1.out).mono ?_
      rintro e w2 ⟨rfl, hf2⟩
      have HF2 := Lib.hid (HF1.out.then hf2)
      have HP2 := Lib.hid (HP1.out.fr0 hf2)
      have hX2 := HX1.out.fr hf2 (fun h => h)
      have HX2 := Lib.hid hX2
      obtain ⟨f0, f1, f2, f3⟩ := hX2.frozenM
      have y := fun i => hX2.cell i
      clear hX2
      go_wp2_with fail
      clear y f0 f1 f2 f3
      have hX3 := HX2.out.setM7 F
      have hF3 := HF2.out.setM (g := w.heap.size) (Or.inr (Nat.le_refl _)) (.int .u64 (wordM F 0 : Nat)) (.int .u64 (wordM F 1 : Nat)) (.int .u64 (wordM F 2 : Nat)) (.int .u64 (wordM F 3 : Nat))
      have hP3 := HP2.out.fr ((Fr.refl (fun i => i = w.heap.size) w2).setM (g := w.heap.size) (Or.inl rfl) (.int .u64 (wordM F 0 : Nat)) (.int .u64 (wordM F 1 : Nat)) (.int .u64 (wordM F 2 : Nat)) (.int .u64 (wordM F 3 : Nat))) (fun i hi e => by have := HNX.out i hi; omega)
      generalize hw3 : ((((w2.setCell ⟨w.heap.size, 0, none⟩ (.int .u64 (wordM F 0 : Nat))).setCell ⟨w.heap.size, 1, none⟩ (.int .u64 (wordM F 1 : Nat))).setCell ⟨w.heap.size, 2, none⟩ (.int .u64 (wordM F 2 : Nat))).setCell ⟨w.heap.size, 3, none⟩ (.int .u64 (wordM F 3 : Nat))) = w3 at hX3 hP3 hF3 ⊢
      clear hw3
      have l0 := Later.cell (hX3.cell 0)
      have l1 := Later.cell (hX3.cell 1)
      have l2 := Later.cell (hX3.cell 2)
      have l3 := Later.cell (hX3.cell 3)
      have l4 := Later.cell (hX3.cell 4)
      have l5 := Later.cell (hX3.cell 5)
      have l6 := Later.cell (hX3.cell 6)
      have m0 := Later.cell (hP3.blk.cell 0)
      have m1 := Later.cell (hP3.blk.cell 1)
      have HP3 := Lib.hid hP3
      have HF3 := Lib.hid hF3
      clear hX3 hP3 hF3
      refine wp_region_mid w3 5 0 (by kernel_rfl) (by kernel_rfl) (Fr.refl _ _) ?_
      simp only [List.take_succ_cons, List.take_zero, List.drop_succ_cons, List.drop_zero, Nat.reduceAdd]
      repeat (go_big_quiet_step (fail))
      refine wpQuiet_nil ?_
      rintro _ ⟨dd, rfl⟩
      clear l0 l1 l2 l3 l4 l5 l6 m0 m1
      go_wp2_with fail
      refine (H26.out _).mono ?_
      rintro e w4' ⟨v, rfl, hrow', hf4'⟩
      go_wp2_with fail
      simp only [Mid]
      repeat (go_big_quiet_step (fail))
      refine wpQuiet_nil ?_
      rintro _ ⟨d4, rfl⟩
      have hf4 := hf4'.then d4.fr
      have hrow := ownsRow_fr hrow' d4.fr (fun _ _ h => h)
      clear hf4' hrow'
      generalize d4.val = w4 at *
      have hf34 := dd.fr.then hf4
      have HP4 := Lib.hid (HP3.out.fr0 hf34)
      have HF4 := Lib.hid (HF3.out.then hf34)
      have hdz := HF3.out.size
      have hddz := dd.fr.size
      have hvn : ∀ g, v.ownBlock = some g → ¬ RS r ov dv g := fun g hg hi => by have := HNX.out g hi; have := (hrow.lt g hg).1; omega
      have HVN := Lib.hid hvn
      obtain ⟨A', cap', rfl⟩ := row_shape hrow
      have HROW := Lib.hid hrow
      have HMS := Lib.hid (MsV.of_row hrow)
      clear hrow hf34 hf4 hvn
      obtain rfl := hres.out
      go_wp2_with fail
      go_loopw [10] (fun i wr => ∃ k : Nat, k ≤ Ms.length ∧ i = .int .i64 k ∧ RPool wr base r ⟨s, p⟩ (giveAll own n (Ms.take k)) D ov dv ∧ Fr (RS r ov dv) w4 wr) (fun i _ => Ms.length - (intOf i).toNat)
      case atStart => exact ⟨0, Nat.zero_le _, rfl, HP4.out, Fr.refl _ _⟩
      case round =>
        obtain ⟨k, hk, rfl, hR, hfr⟩ := hrel
        have HRk := Lib.hid hR
        clear hR
        by_cases hlt : k < Ms.length
        · obtain ⟨B, cp, hv, hc⟩ := HMS.out.fr hfr HVN.out
          cases hv
          obtain ⟨g, off, rfl, c⟩ := hc k hlt
          obtain ⟨c0, c1, c2, c3⟩ := MsV.at4 c
          have HST := Lib.hid (giveAll_take (own := own) (n := n) hlt)
          generalize Ms[k] = M at *
          have hgl := giveAll_len own n (Ms.take k)
          have HGL := Lib.hid hgl
          clear c hc hgl
          go_wp2_with fail
          refine (H82.out _ _ M HRk.out (by rw [HGL.out]; exact hO)).mono ?_
          rintro e w5 ⟨rfl, hR5, hf5⟩
          have HR5 := Lib.hid hR5
          clear hR5 c0 c1 c2 c3
          go_wp2_with fail
          go_roundw
          case rel => exact ⟨k + 1, by omega, by go_num, by rw [HST.out]; exact HR5.out, hfr.then hf5⟩
          case measure => simp [intOf]; omega
        · obtain rfl : k = Ms.length := by omega
          rw [List.take_length] at HRk
          have hrr := ownsRow_fr HROW.out hfr HVN.out
          have HRR := Lib.hid hrr
          clear hrr
          go_wp2_with fail
          go_ret2
          exact ⟨_, rfl, ownsRow_base_a' HRR.out (Nat.le_trans hdz hddz), HRk.out, (HF4.out.mono (fun _ _ h => h.elim)).then hfr⟩

end Go.Proofs.Ytcefadbnmpjeiaa

/-
  The reference's pool: Take, Release.
-/
namespace Go.Proofs.Ytcefadbnmpjeiaa
open Go.RowKit Go.Maps

def takeR (own D : List Int) (n : Int) (M : Nat) : Int × List Int × List Int :=
  if mayO n then
    (if M = 0 then (1, own, D)
     else if hasR own n then (14, own, D)
     else if minusM M (havM own (-1)) = 0 then (0, giveL own n M, D ++ [n]) else (12, own, D))
  else (1, own, D)

/-- What the reference's state becomes. -/
structure RNext2 (w w' : World) (base r : Nat) (l : LayD) (own D : List Int) (ov dv : Value) : Prop where
  ex : ∃ ov' dv', RPool w' base r l own D ov' dv' ∧ ∀ i, RS r ov' dv' i → RS r ov dv i ∨ w.heap.size ≤ i
  fr : Fr (RS r ov dv) w w'

set_option maxRecDepth 20000 in
set_option maxHeartbeats 2000000 in
theorem take68_any (w : World) (base r : Nat) (l : LayD) (own D : List Int) (ov dv : Value) (h : RPool w base r l own D ov dv) (hb : base ≤ w.heap.size) (hO : own.length ≤ 256) (hD : D.length < 100000) (n : Int) (M : Nat) (hM : M < 2 ^ 256) (res : Int × List Int × List Int) (hres : Hid (res = takeR own D n M)) :
    Calls Try.prog 68 #[.pointer (some ⟨r, 0, none⟩), .int .i64 n, valM M] w fun e w' => e = .returned (.int .i64 res.1) ∧ RNext w w' base r l res.2.1 res.2.2 ov dv := by
  obtain ⟨i0, hi, hz0, hz1, hz2⟩ := info_parts info3
  have HF := Lib.hid ((Fr.refl (fun _ => False) w).alloc (.cells #[.int .u64 (wordM M 0 : Nat), .int .u64 (wordM M 1 : Nat), .int .u64 (wordM M 2 : Nat), .int .u64 (wordM M 3 : Nat)] 40))
  have hX := (Blk.new w 40 #[.int .u64 (wordM M 0 : Nat), .int .u64 (wordM M 1 : Nat), .int .u64 (wordM M 2 : Nat), .int .u64 (wordM M 3 : Nat)])
  have HX := Lib.hid hX
  have hp0 := h.fr0 HF.out
  have HP0 := Lib.hid hp0
  have h81 := fun W => owner81_any n W
  have h74 := has74_any _ base r l own D ov dv hp0 hO n
  have h40 := fun W (hW : RPool W base r l own D ov dv) => free40_any W base r l own D ov dv hW hO
  have h82 := fun W (hW : RPool W base r l own D ov dv) => give82_any W base r l own D ov dv hW hO n M
  have hgl := giveL_len own n M
  have HNX := Lib.hid (fun i (hi : RS r ov dv i) => (h.ge hi).2)
  unfold takeR at hres
  obtain ⟨F, hF⟩ : ∃ F, havM own (-1) = F := ⟨_, rfl⟩
  simp only [hF] at h40 hres
  clear hF
  have h83 := fun W => minus83_any M F hM W
  have hq0 := fun W => eq_masks (M := M) (M' := 0) hM (by decide) 40 Try.underlying40 W
  have hq1 := fun W => eq_masks (M := minusM M F) (M' := 0) (minusM_lt hM F) (by decide) 40 Try.underlying40 W
  simp only [valM, zero_cells] at hq0 hq1
  simp only [valM, Ytcefadbnmpjeiaa.cellsM] at hq0 hq1 h40 h82 h83 ⊢
  generalize minusM M F = X at *
  obtain ⟨dA, dcap, rfl⟩ := h.shapeD
  cases hm : mayO n with
  | false =>
    rw [hm] at h81 hres
    rw [if_neg (by simp)] at hres
    obtain rfl := hres.out
    have H81 := Lib.hid h81
    clear h81 h74 h40 h82 h83 hq0 hq1 hp0 h hm hX
    go_enter Try.func68, Try.ntmps68
    go_wp2_with fail
    refine (H81.out _).mono ?_
    rintro e w1 ⟨rfl, rfl⟩
    go_wp2_with fail
    go_ret
    exact ⟨rfl, ⟨_, HP0.out, fun i hi => Or.inl hi⟩, HF.out.mono (fun _ _ h => h.elim)⟩
  | true =>
    rw [hm] at h81 hres
    rw [if_pos rfl] at hres
    have H81 := Lib.hid h81
    by_cases hM0 : M = 0
    · rw [if_pos hM0] at hres
      rw [decide_eq_true hM0] at hq0
      obtain rfl := hres.out
      have HQ0 := Lib.hid hq0
      clear h81 h74 h40 h82 h83 hq0 hq1 hp0 h hm hM0
      have y := fun i => hX.cell i
      clear hX
      go_enter Try.func68, Try.ntmps68
      go_wp2_with fail
      refine (H81.out _).mono ?_
      rintro e w1 ⟨rfl, rfl⟩
      have hq := HQ0.out
      go_wp2_with fail
      go_ret
      exact ⟨rfl, ⟨_, HP0.out, fun i hi => Or.inl hi⟩, HF.out.mono (fun _ _ h => h.elim)⟩
    · rw [if_neg hM0] at hres
      rw [decide_eq_false hM0] at hq0
      have HQ0 := Lib.hid hq0
      cases hh : hasR own n with
      | true =>
        rw [hh] at h74 hres
        rw [if_pos rfl] at hres
        obtain rfl := hres.out
        have H74 := Lib.hid h74
        clear h81 h74 h40 h82 h83 hq0 hq1 hp0 h hm hM0 hh
        have y := fun i => hX.cell i
        clear hX
        go_enter Try.func68, Try.ntmps68
        go_wp2_with fail
        refine (H81.out _).mono ?_
        rintro e w1 ⟨rfl, rfl⟩
        have hq := HQ0.out
        go_wp2_with fail
        refine H74.out.mono ?_
        rintro e w1 ⟨rfl, hf1⟩
        go_wp2_with fail
        go_ret
        exact ⟨rfl, ⟨_, HP0.out.fr0 hf1, fun i hi => Or.inl hi⟩, (HF.out.then hf1).mono (fun _ _ h => h.elim)⟩
      | false =>
        rw [hh] at h74 hres
        rw [if_neg (by simp)] at hres
        have H74 := Lib.hid h74
        have H40 := Lib.hid h40
        have H82 := Lib.hid h82
        have H83 := Lib.hid h83
        have HX0 := Lib.hid hX
        by_cases hX0 : X = 0
        · rw [if_pos hX0] at hres
          rw [decide_eq_true hX0] at hq1
          obtain rfl := hres.out
          have HQ1 := Lib.hid hq1
          have HGL := Lib.hid hgl
          clear h81 h74 h40 h82 h83 hq0 hq1 hp0 h hm hM0 hh hX0 hgl
          have y := fun i => hX.cell i
          clear hX
          go_enter Try.func68, Try.ntmps68
          go_wp2_with fail
          refine (H81.out _).mono ?_
          rintro e w1 ⟨rfl, rfl⟩
          have hq := HQ0.out
          go_wp2_with fail
          refine H74.out.mono ?_
          rintro e w1 ⟨rfl, hf1⟩
          clear hq y
          have HX1 := Lib.hid (HX0.out.fr hf1 (fun h => h))
          have HP1 := Lib.hid (HP0.out.fr0 hf1)
          have HF1 := Lib.hid (HF.out.then hf1)
          clear hf1
          go_wp2_with fail
          have hq1 := HQ1.out
          have l0 := Later.cell (HX1.out.cell 0)
          have l1 := Later.cell (HX1.out.cell 1)
          have l2 := Later.cell (HX1.out.cell 2)
          have l3 := Later.cell (HX1.out.cell 3)
          have H40' := Lib.hid (fun (d : Later w1) => H40.out d.val (HP1.out.fr0 d.fr))
          refine wp_region_later w1 (by kernel_rfl) (by kernel_rfl) (Fr.refl _ _) ?_
          repeat (go_big_quiet_step (first
            | (go_at_call 40; exact later_call (H40'.out _))
            | (go_at_call 83; exact later_call (H83.out _))))
          refine wpQuiet_nil ?_
          rintro _ ⟨d2, rfl⟩
          have hX2 := HX1.out.fr d2.fr (fun h => h)
          have HP2 := Lib.hid (HP1.out.fr0 d2.fr)
          have HF2 := Lib.hid (HF1.out.then d2.fr)
          have y := fun i => hX2.cell i
          clear l0 l1 l2 l3 hq1 hX2
          generalize d2.val = w2 at *
          go_wp2_with fail
          refine (H82.out _ HP2.out).mono ?_
          rintro e w3 ⟨rfl, hR3, hf3⟩
          have hF3 := (HF2.out.mono (S' := RS r ov (.slice dA D.length dcap)) (fun _ _ h => h.elim)).then hf3
          have HF3 := Lib.hid hF3
          have hsz := hF3.size
          have hrow := hR3.dn
          have e3 := hR3.blk.cell 3
          have HR3 := Lib.hid hR3
          clear hR3 hF3 y
          go_wp2_with (at_builtin; refine wpList_append_own_at _ rfl _ _ 24 rfl base 3 i0 (.int .i64 0) 1 8 Try.underlying24 hi hz0 hz1 hz2 rfl (by decide) _ _ _ rfl (hrow.alloc _) ⟨w3.heap.size, 0, none⟩ 1 1 [.int .i64 n] rfl rfl (news_one w3 3 _) (by simp [Value.oneCell']) (by unfold maxLen; omega) (by omega) (by simp; omega) ?_; intro v' w4 hown1 hgrow1 hne1 hat1; obtain ⟨g', cap1, rfl⟩ := row_succ hown1; have hpp := HR3.out.pushD (n := n) hown1 hgrow1 hat1; have hfz := hpp.2.2.2.frozen 3; have e4 := hpp.2.2.2.cell 3; have HPP := Lib.hid hpp; clear hpp)
          go_ret
          obtain ⟨p1, p2, p3, _⟩ := HPP.out
          exact ⟨rfl, ⟨_, p1, fun i hi => (p3 i hi).imp id (fun h => Nat.le_trans hsz h)⟩, HF3.out.then p2⟩
        · rw [if_neg hX0] at hres
          rw [decide_eq_false hX0] at hq1
          obtain rfl := hres.out
          have HQ1 := Lib.hid hq1
          clear h81 h74 h40 h82 h83 hq0 hq1 hp0 h hm hM0 hh hX0 hgl
          have y := fun i => hX.cell i
          clear hX
          go_enter Try.func68, Try.ntmps68
          go_wp2_with fail
          refine (H81.out _).mono ?_
          rintro e w1 ⟨rfl, rfl⟩
          have hq := HQ0.out
          go_wp2_with fail
          refine H74.out.mono ?_
          rintro e w1 ⟨rfl, hf1⟩
          clear hq y
          have HX1 := Lib.hid (HX0.out.fr hf1 (fun h => h))
          have HP1 := Lib.hid (HP0.out.fr0 hf1)
          have HF1 := Lib.hid (HF.out.then hf1)
          clear hf1
          go_wp2_with fail
          have hq1 := HQ1.out
          have l0 := Later.cell (HX1.out.cell 0)
          have l1 := Later.cell (HX1.out.cell 1)
          have l2 := Later.cell (HX1.out.cell 2)
          have l3 := Later.cell (HX1.out.cell 3)
          have H40' := Lib.hid (fun (d : Later w1) => H40.out d.val (HP1.out.fr0 d.fr))
          refine wp_region_later w1 (by kernel_rfl) (by kernel_rfl) (Fr.refl _ _) ?_
          repeat (go_big_quiet_step (first
            | (go_at_call 40; exact later_call (H40'.out _))
            | (go_at_call 83; exact later_call (H83.out _))))
          refine wpQuiet_nil ?_
          rintro _ ⟨d2, rfl⟩
          go_wp2_with fail
          go_ret
          exact ⟨rfl, ⟨_, HP1.out.fr0 d2.fr, fun i hi => Or.inl hi⟩, (HF1.out.then d2.fr).mono (fun _ _ h => h.elim)⟩

def releaseR (own D : List Int) (n : Int) : Int × List Int × List Int :=
  if hasR own n then (0, giveL own (-1) (havM own n), D.filter fun x => x != n) else (14, own, D)

theorem filterD_take {D : List Int} {n : Int} {k : Nat} (hk : k < D.length) : (D.take (k + 1)).filter (fun x => x != n) = if ((D[k]'hk) != n) = true then (D.take k).filter (fun x => x != n) ++ [D[k]'hk] else (D.take k).filter (fun x => x != n) := by
  rw [List.take_succ_eq_append_getElem hk, List.filter_append]
  by_cases h : ((D[k]'hk) != n) = true
  · rw [if_pos h, List.filter_cons_of_pos (p := fun x => x != n) h]; rfl
  · rw [if_neg h, List.filter_cons_of_neg (p := fun x => x != n) h]; simp

theorem RPool.setDn {w : World} {base B r : Nat} {l : LayD} {own D D' : List Int} {ov dv v' : Value} (h : RPool w base r l own D ov dv) (hrow : w.ownsRow B 3 1 v' D'.length (D'.map encI)) (hB : base ≤ B) (hne : ∀ g, ov.ownBlock = some g → v'.ownBlock ≠ some g) :
    RPool (w.setCell ⟨r, 3, none⟩ v') base r l own D' ov v' where
  blk := h.blk.set_ 3 v'
  row := ownsRow_set h.row h.blk (by decide) _ _
  dn := ownsRow_base_a' (ownsRow_set hrow h.blk (by decide) _ _) hB
  hr := h.hr
  ne := hne

set_option maxRecDepth 20000 in
set_option maxHeartbeats 2000000 in
theorem release70_any (w : World) (base r : Nat) (l : LayD) (own D : List Int) (ov dv : Value) (h : RPool w base r l own D ov dv) (hb : base ≤ w.heap.size) (hO : own.length ≤ 256) (hD : D.length < 100000) (n : Int) (res : Int × List Int × List Int) (hres : Hid (res = releaseR own D n)) :
    Calls Try.prog 70 #[.pointer (some ⟨r, 0, none⟩), .int .i64 n] w fun e w' => e = .returned (.int .i64 res.1) ∧ RNext w w' base r l res.2.1 res.2.2 ov dv := by
  obtain ⟨i0, hi, hz0, hz1, hz2⟩ := info_parts info3
  have h74 := has74_any w base r l own D ov dv h hO n
  have h71 := fun W (hW : RPool W base r l own D ov dv) => having71_any W base r l own D ov dv hW hO n
  have h82 := fun W M (hW : RPool W base r l own D ov dv) => give82_any W base r l own D ov dv hW hO (-1) M
  have HR := Lib.hid h
  have HNX := Lib.hid (fun i (hi : RS r ov dv i) => (h.ge hi).2)
  obtain ⟨dA, dcap, rfl⟩ := h.shapeD
  unfold releaseR at hres
  cases hh : hasR own n with
  | false =>
    rw [hh] at h74 hres
    rw [if_neg (by simp)] at hres
    obtain rfl := hres.out
    have H74 := Lib.hid h74
    clear h74 h71 h82 h hh
    go_enter Try.func70, Try.ntmps70
    go_wp2_with fail
    refine H74.out.mono ?_
    rintro e w1 ⟨rfl, hf1⟩
    go_wp2_with fail
    go_ret
    exact ⟨rfl, ⟨_, HR.out.fr0 hf1, fun i hi => Or.inl hi⟩, hf1.mono (fun _ _ h => h.elim)⟩
  | true =>
    rw [hh] at h74 hres
    rw [if_pos rfl] at hres
    obtain rfl := hres.out
    generalize havM own n = M at *
    simp only [valM, Ytcefadbnmpjeiaa.cellsM] at h71 h82
    have H74 := Lib.hid h74
    have H71 := Lib.hid h71
    have H82 := Lib.hid h82
    clear h74 h71 h82 h hh
    go_enter Try.func70, Try.ntmps70
    go_wp2_with fail
    refine H74.out.mono ?_
    rintro e w1 ⟨rfl, hf1⟩
    go_wp2_with fail
    refine (H71.out _ (HR.out.fr0 hf1)).mono ?_
    rintro e w2 ⟨rfl, hf2⟩
    have HR2 := Lib.hid (HR.out.fr0 (hf1.then hf2))
    have HF2 := Lib.hid (hf1.then hf2)
    go_wp2_with fail
    refine (H82.out _ M HR2.out).mono ?_
    rintro e w3 ⟨rfl, hR3, hf3⟩
    have HR3 := Lib.hid hR3
    have HF3 := Lib.hid ((HF2.out.mono (S' := RS r ov (.slice dA D.length dcap)) (fun _ _ h => h.elim)).then hf3)
    clear hR3 hf3
    have hsz := HF3.out.size
    go_wp2_with fail
    go_loopw [5, 6] (fun v i wr => ∃ k : Nat, k ≤ D.length ∧ i = .int .i64 k ∧ wr.ownsRow w3.heap.size 3 1 v ((D.take k).filter fun x => x != n).length (((D.take k).filter fun x => x != n).map encI) ∧ Fr (fun _ => False) w3 wr) (fun _ i _ => D.length - (intOf i).toNat)
    case atStart => exact ⟨0, Nat.zero_le _, rfl, World.ownsRow_nil _ _ _ _, Fr.refl _ _⟩
    case round =>
      obtain ⟨k, hk, rfl, hrow, hfr⟩ := hrel
      have hR := HR3.out.fr0 hfr
      have c3 := hR.blk.cell 3
      have hle : ((D.take k).filter fun x => x != n).length ≤ k := Nat.le_trans (List.length_filter_le _ _) (by rw [List.length_take]; omega)
      by_cases hlt : k < D.length
      · obtain ⟨g, cp, hv, c1⟩ := hR.elemD hlt
        cases hv
        have hst := filterD_take (n := n) hlt
        generalize D[k] = y at *
        generalize (D.take k).filter (fun x => x != n) = fk at *
        have hkr := hrow.lt
        have hszr := hfr.size
        cases hc : y != n with
        | true =>
          rw [if_pos hc] at hst
          have HST := Lib.hid hst
          have hc' := Lib.hid hc
          clear hst
          go_wp2_with (at_builtin; refine wpList_append_own _ rfl _ _ 24 rfl w3.heap.size 3 i0 (.int .i64 0) 1 8 Try.underlying24 hi hz0 hz1 hz2 rfl (by decide) _ _ _ rfl (hrow.alloc _) ⟨wr.heap.size, 0, none⟩ 1 1 [.int .i64 y] rfl rfl (news_one wr 3 _) (by simp [Value.oneCell']) (by unfold maxLen; omega) (by omega) (by simp; omega) ?_; intro v' w4 hown1 hgrow1 hne1)
          go_roundw
          case rel => exact ⟨k + 1, by omega, by go_num, by rw [HST.out, List.length_append, List.map_append]; exact hown1, (hfr.alloc _).grown hgrow1 (fun q e => Or.inr (hkr q e).1)⟩
          case measure => simp [intOf]; omega
        | false =>
          rw [if_neg (by simp [hc])] at hst
          have HST := Lib.hid hst
          clear hst
          go_wp2
          go_roundw
          case rel => exact ⟨k + 1, by omega, by go_num, by rw [HST.out]; exact hrow, hfr⟩
          case measure => simp [intOf]; omega
      · obtain rfl : k = D.length := by omega
        rw [List.take_length] at hrow hle
        have hfz := hR.blk.frozen 3
        have hne : ∀ g, ov.ownBlock = some g → ∀ g', u5.ownBlock = some g' → g' ≠ g := fun g hg g' hg' e => by
          have h1 := HNX.out g (Or.inr (Or.inl hg))
          have h2 := (hrow.lt g' hg').1
          have h3 := HF3.out.size
          omega
        have hnew : ∀ g, u5.ownBlock = some g → w.heap.size ≤ g := fun g hg => Nat.le_trans hsz (hrow.lt g hg).1
        obtain ⟨A', cap', rfl⟩ := row_shape hrow
        have HRr := Lib.hid (hR.setDn hrow (Nat.le_trans hb hsz) (fun g hg e => hne g hg g e rfl))
        have HNE := Lib.hid hnew
        clear hR hne hnew
        go_wp2
        go_ret
        refine ⟨rfl, ⟨_, HRr.out, ?_⟩, ?_⟩
        · rintro i (rfl | hi | hi)
          · exact Or.inl (Or.inl rfl)
          · exact Or.inl (Or.inr (Or.inl hi))
          · exact Or.inr (HNE.out i hi)
        · exact ((HF3.out.trans hfr (fun _ _ h => h.elim)).setCell (p := ⟨r, 3, none⟩) (Or.inl (Or.inl rfl)) _)

end Go.Proofs.Ytcefadbnmpjeiaa

/-
  The reference's pool: Owners.
-/
namespace Go.Proofs.Ytcefadbnmpjeiaa
open Go.RowKit Go.Maps

/-- One round of the reference's laying of n into a list. -/
def stepO (n : Int) (st : List Int × Bool) (x : Int) : List Int × Bool :=
  if st.2 = false ∧ n ≤ x then (if x = n then (st.1 ++ [n], true) else (st.1 ++ [n] ++ [x], true))
  else (if x = n then st else (st.1 ++ [x], st.2))
def foldO (n : Int) (out : List Int) : List Int × Bool := out.foldl (stepO n) ([], false)
def insO (n : Int) (out : List Int) : List Int := if (foldO n out).2 then (foldO n out).1 else (foldO n out).1 ++ [n]
def ownR (own : List Int) : List Int := own.foldl (fun out n => if n < 0 then out else insO n out) []

theorem foldO_take {n : Int} {out : List Int} {k : Nat} (hk : k < out.length) : foldO n (out.take (k + 1)) = stepO n (foldO n (out.take k)) (out[k]'hk) := by
  unfold foldO
  rw [List.take_succ_eq_append_getElem hk, List.foldl_append]
  rfl
theorem foldO_len (n : Int) (out : List Int) (k : Nat) (hk : k ≤ out.length) : (foldO n (out.take k)).1.length ≤ 2 * k := by
  induction k with
  | zero => simp [foldO]
  | succ k ih =>
    have h1 := ih (by omega)
    rw [foldO_take (by omega)]
    unfold stepO
    split
    · split
      · simp only [List.length_append, List.length_cons, List.length_nil]; omega
      · simp only [List.length_append, List.length_cons, List.length_nil]; omega
    · split
      · omega
      · simp only [List.length_append, List.length_cons, List.length_nil]; omega
theorem ownR_take {own : List Int} {k : Nat} (hk : k < own.length) : ownR (own.take (k + 1)) = if (own[k]'hk) < 0 then ownR (own.take k) else insO (own[k]'hk) (ownR (own.take k)) := by
  unfold ownR
  rw [List.take_succ_eq_append_getElem hk, List.foldl_append]
  rfl

/-- A list that rises. -/
abbrev Rises (L : List Int) : Prop := L.Pairwise fun a b => a < b

theorem foldO_true (n : Int) : ∀ (L acc : List Int), L.foldl (stepO n) (acc, true) = (acc ++ L.filter (fun x => decide (x ≠ n)), true)
  | [], acc => by simp
  | x :: L, acc => by
    rw [List.foldl_cons]
    by_cases h : x = n
    · rw [show stepO n (acc, true) x = (acc, true) by simp [stepO, h], foldO_true n L acc, List.filter_cons_of_neg (by simp [h])]
    · rw [show stepO n (acc, true) x = (acc ++ [x], true) by simp [stepO, h], foldO_true n L (acc ++ [x]), List.filter_cons_of_pos (by simpa using h)]
      simp
theorem foldO_false (n : Int) : ∀ (L acc : List Int), Rises L → (if (L.foldl (stepO n) (acc, false)).2 then (L.foldl (stepO n) (acc, false)).1 else (L.foldl (stepO n) (acc, false)).1 ++ [n]) =
    acc ++ L.filter (fun x => decide (x < n)) ++ [n] ++ L.filter (fun x => decide (n < x))
  | [], acc, _ => by simp
  | x :: L, acc, h => by
    obtain ⟨h1, h2⟩ := List.pairwise_cons.1 h
    rw [List.foldl_cons]
    by_cases hx : n ≤ x
    · have e1 : L.filter (fun y => decide (y < n)) = [] := by
        rw [List.filter_eq_nil_iff]
        intro y hy
        have := h1 y hy
        simp only [decide_eq_true_eq]
        omega
      have e2 : L.filter (fun y => decide (n < y)) = L := List.filter_eq_self.2 fun y hy => by
        have := h1 y hy
        simp only [decide_eq_true_eq]
        omega
      have e3 : L.filter (fun y => decide (y ≠ n)) = L := List.filter_eq_self.2 fun y hy => by
        have := h1 y hy
        simp only [decide_eq_true_eq]
        omega
      by_cases he : x = n
      · rw [show stepO n (acc, false) x = (acc ++ [n], true) by simp [stepO, he], foldO_true, e3]
        rw [List.filter_cons_of_neg (by simp; omega), List.filter_cons_of_neg (by simp; omega), e1, e2]
        simp
      · rw [show stepO n (acc, false) x = (acc ++ [n] ++ [x], true) by simp [stepO, hx, he], foldO_true, e3]
        rw [List.filter_cons_of_neg (by simp; omega), List.filter_cons_of_pos (by simp; omega), e1, e2]
        simp
    · rw [show stepO n (acc, false) x = (acc ++ [x], false) by simp [stepO, hx]; omega, foldO_false n L (acc ++ [x]) h2]
      rw [List.filter_cons_of_pos (by simp; omega), List.filter_cons_of_neg (by simp; omega)]
      simp
theorem insO_eq {n : Int} {out : List Int} (h : Rises out) : insO n out = out.filter (fun x => decide (x < n)) ++ [n] ++ out.filter (fun x => decide (n < x)) := by
  have := foldO_false n out [] h
  rw [List.nil_append] at this
  unfold insO foldO
  exact this
theorem insO_rises {n : Int} {out : List Int} (h : Rises out) : Rises (insO n out) := by
  rw [insO_eq h]
  refine List.pairwise_append.2 ⟨List.pairwise_append.2 ⟨h.sublist List.filter_sublist, by simp, fun a ha b hb => ?_⟩, h.sublist List.filter_sublist, fun a ha b hb => ?_⟩
  · have := (List.mem_filter.1 ha).2
    simp only [decide_eq_true_eq] at this
    rw [List.mem_singleton] at hb
    omega
  · have h2 := (List.mem_filter.1 hb).2
    simp only [decide_eq_true_eq] at h2
    rcases List.mem_append.1 ha with ha | ha
    · have h1 := (List.mem_filter.1 ha).2
      simp only [decide_eq_true_eq] at h1
      omega
    · rw [List.mem_singleton] at ha
      omega
theorem insO_mem {n : Int} {out : List Int} (h : Rises out) (x : Int) : x ∈ insO n out ↔ x = n ∨ x ∈ out := by
  rw [insO_eq h]
  simp only [List.mem_append, List.mem_filter, List.mem_singleton, decide_eq_true_eq]
  constructor
  · rintro ((⟨h1, _⟩ | rfl) | ⟨h1, _⟩)
    · exact Or.inr h1
    · exact Or.inl rfl
    · exact Or.inr h1
  · rintro (rfl | h1)
    · exact Or.inl (Or.inr rfl)
    · rcases Int.lt_trichotomy x n with h2 | h2 | h2
      · exact Or.inl (Or.inl ⟨h1, h2⟩)
      · exact Or.inl (Or.inr h2)
      · exact Or.inr ⟨h1, h2⟩

theorem ownR_spec (own : List Int) : Rises (ownR own) ∧ ∀ x, x ∈ ownR own ↔ (0 ≤ x ∧ x ∈ own) := by
  unfold ownR
  suffices H : ∀ (L : List Int) (acc : List Int), Rises acc → Rises (L.foldl (fun out n => if n < 0 then out else insO n out) acc) ∧ ∀ x, x ∈ L.foldl (fun out n => if n < 0 then out else insO n out) acc ↔ (x ∈ acc ∨ (0 ≤ x ∧ x ∈ L)) by
    obtain ⟨h1, h2⟩ := H own [] List.Pairwise.nil
    exact ⟨h1, fun x => by rw [h2 x]; simp⟩
  intro L
  induction L with
  | nil => intro acc h; exact ⟨h, fun x => by simp⟩
  | cons n L ih =>
    intro acc h
    rw [List.foldl_cons]
    by_cases hn : n < 0
    · rw [if_pos hn]
      obtain ⟨h1, h2⟩ := ih acc h
      refine ⟨h1, fun x => ?_⟩
      rw [h2 x, List.mem_cons]
      constructor
      · rintro (h3 | ⟨h3, h4⟩)
        · exact Or.inl h3
        · exact Or.inr ⟨h3, Or.inr h4⟩
      · rintro (h3 | ⟨h3, h4 | h4⟩)
        · exact Or.inl h3
        · omega
        · exact Or.inr ⟨h3, h4⟩
    · rw [if_neg hn]
      obtain ⟨h1, h2⟩ := ih (insO n acc) (insO_rises h)
      refine ⟨h1, fun x => ?_⟩
      rw [h2 x, insO_mem h, List.mem_cons]
      constructor
      · rintro ((h3 | h3) | ⟨h3, h4⟩)
        · exact Or.inr ⟨by omega, Or.inl h3⟩
        · exact Or.inl h3
        · exact Or.inr ⟨h3, Or.inr h4⟩
      · rintro (h3 | ⟨h3, h4 | h4⟩)
        · exact Or.inl (Or.inr h3)
        · exact Or.inl (Or.inl h4)
        · exact Or.inr ⟨h3, h4⟩


theorem ownersS_rises {H : List (Int × HoldD)} (hn : H.Pairwise fun p q => p.1 ≠ q.1) : Rises (ownersS H) := by
  have tr : ∀ a b c : Int, decide (a ≤ b) = true → decide (b ≤ c) = true → decide (a ≤ c) = true := fun a b c h1 h2 => by simp only [decide_eq_true_eq] at *; omega
  have to : ∀ a b : Int, (decide (a ≤ b) || decide (b ≤ a)) = true := fun a b => by simp only [Bool.or_eq_true, decide_eq_true_eq]; omega
  have h1 := List.pairwise_mergeSort tr to (H.map (·.1))
  have h2 : (ownersS H).Nodup := by unfold ownersS; exact ((List.mergeSort_perm (H.map (·.1)) _).nodup_iff).2 (List.pairwise_map.2 hn)
  refine (h1.and h2).imp fun {a b} ⟨h3, h4⟩ => ?_
  simp only [decide_eq_true_eq] at h3
  have : a ≠ b := h4
  omega
theorem ownersS_mem (H : List (Int × HoldD)) (x : Int) : x ∈ ownersS H ↔ ∃ p ∈ H, p.1 = x := by
  unfold ownersS
  rw [(List.mergeSort_perm (H.map (·.1)) _).mem_iff, List.mem_map]

theorem SimP.owners {l : LayD} {H : List (Int × HoldD)} {own D : List Int} (h : SimP l H own D) : ownR own = ownersS H := by
  obtain ⟨h1, h2⟩ := ownR_spec own
  refine List.Perm.eq_of_pairwise (le := fun a b => a < b) (fun a b _ _ h3 h4 => by omega) h1 (ownersS_rises h.nd) ?_
  refine (List.perm_ext_iff_of_nodup (h1.imp fun h => by omega) ((ownersS_rises h.nd).imp fun h => by omega)).2 fun x => ?_
  rw [h2, ownersS_mem]
  constructor
  · rintro ⟨h0, hx⟩
    obtain ⟨i, hi, rfl⟩ := List.getElem_of_mem hx
    have e : own.getD i 0 = own[i] := by rw [List.getD_eq_getElem?_getD, List.getElem?_eq_getElem hi, Option.getD_some]
    rcases h.own_ i hi with h3 | ⟨p, hp, h3⟩
    · omega
    · exact ⟨p, hp, h3.trans e⟩
  · rintro ⟨p, hp, rfl⟩
    refine ⟨mayO_nonneg (h.key p hp), ?_⟩
    have h0 := h.pos p hp
    have : ∃ i, p.2.1.testBit i = true := by
      refine Classical.byContradiction fun hn => h0 (eq_zero_of fun i => ?_)
      cases hb : p.2.1.testBit i with
      | false => rfl
      | true => exact absurd ⟨i, hb⟩ hn
    obtain ⟨i, hi⟩ := this
    obtain ⟨h3, h4⟩ := (h.bit p hp i).1 hi
    rw [← h4, List.getD_eq_getElem?_getD, List.getElem?_eq_getElem h3, Option.getD_some]
    exact List.getElem_mem h3

theorem two_filters (n : Int) : ∀ L : List Int, (L.filter (fun x => decide (x < n))).length + (L.filter (fun x => decide (n < x))).length ≤ L.length
  | [] => Nat.le_refl _
  | x :: L => by
    have ih := two_filters n L
    by_cases h1 : x < n
    · rw [List.filter_cons_of_pos (by simpa using h1), List.filter_cons_of_neg (by simp; omega)]
      simp only [List.length_cons]; omega
    · by_cases h2 : n < x
      · rw [List.filter_cons_of_neg (by simpa using h1), List.filter_cons_of_pos (by simpa using h2)]
        simp only [List.length_cons]; omega
      · rw [List.filter_cons_of_neg (by simpa using h1), List.filter_cons_of_neg (by simpa using h2)]
        simp only [List.length_cons]; omega
theorem insO_len (n : Int) {out : List Int} (h : Rises out) : (insO n out).length ≤ out.length + 1 := by
  rw [insO_eq h]
  have h1 := two_filters n out
  simp only [List.length_append, List.length_cons, List.length_nil]
  omega
theorem ownR_len (own : List Int) : (ownR own).length ≤ own.length := by
  unfold ownR
  suffices H : ∀ (L : List Int) (acc : List Int), Rises acc → (L.foldl (fun out n => if n < 0 then out else insO n out) acc).length ≤ acc.length + L.length by
    have := H own [] List.Pairwise.nil
    simpa using this
  intro L
  induction L with
  | nil => intro acc _; simp
  | cons n L ih =>
    intro acc h
    rw [List.foldl_cons, List.length_cons]
    by_cases hn : n < 0
    · rw [if_pos hn]; have := ih acc h; omega
    · rw [if_neg hn]; have := ih _ (insO_rises (n := n) h); have := insO_len n h; omega

end Go.Proofs.Ytcefadbnmpjeiaa

/-
  The reference's pool: Owners, walked.
-/
namespace Go.Proofs.Ytcefadbnmpjeiaa
open Go.RowKit Go.Maps

theorem ownR_rises (own : List Int) : Rises (ownR own) := (ownR_spec own).1

set_option maxRecDepth 20000 in
set_option maxHeartbeats 4000000 in
theorem owners42_any (w : World) (base r : Nat) (l : LayD) (own D : List Int) (ov dv : Value) (h : RPool w base r l own D ov dv) (hO : own.length ≤ 256) :
    Calls Try.prog 42 #[.pointer (some ⟨r, 0, none⟩)] w fun e w' => ∃ v, e = .returned v ∧ w'.ownsRow w.heap.size 3 1 v (ownR own).length ((ownR own).map encI) ∧ Fr (fun _ => False) w w' := by
  obtain ⟨i0, hi, hz0, hz1, hz2⟩ := info_parts info3
  have HH := Lib.hid h
  obtain ⟨A, cap, rfl⟩ := h.shape
  clear h
  go_enter Try.func42, Try.ntmps42
  go_wp2
  go_loopw [3, 4] (fun v i wr => ∃ k : Nat, k ≤ own.length ∧ i = .int .i64 k ∧ wr.ownsRow w.heap.size 3 1 v (ownR (own.take k)).length ((ownR (own.take k)).map encI) ∧ Fr (fun _ => False) w wr) (fun _ i _ => own.length - (intOf i).toNat)
  case atStart => exact ⟨0, Nat.zero_le _, rfl, World.ownsRow_nil _ _ _ _, Fr.refl _ _⟩
  case round =>
    obtain ⟨k, hk, rfl, hrow, hfr⟩ := hrel
    obtain ⟨wA, rfl⟩ : ∃ wA : World, wA = wr := ⟨_, rfl⟩
    have hR := HH.out.fr0 hfr
    have c2 := hR.blk.cell 2
    have hlo := ownR_len (own.take k)
    have hlo2 : (own.take k).length ≤ k := by rw [List.length_take]; omega
    by_cases hlt : k < own.length
    · obtain ⟨g, cp, hv, c1⟩ := hR.elem hlt
      cases hv
      have hst := ownR_take hlt
      have hri := ownR_rises (own.take k)
      generalize own[k] = n at *
      generalize hout : ownR (own.take k) = out at *
      clear hout
      obtain ⟨oA, ocap, rfl⟩ := row_shape hrow
      have hol : out.length ≤ 256 := by omega
      clear hlo hlo2
      by_cases hn : n < 0
      · rw [if_pos hn] at hst
        have b1 : decide (n < 0) = true := decide_eq_true hn
        have HST := Lib.hid hst
        have HROW := Lib.hid hrow
        clear hst hn hR hrow hri
        go_wp2
        go_roundw
        case rel => exact ⟨k + 1, by omega, by go_num, by rw [HST.out]; exact HROW.out, hfr⟩
        case measure => simp [intOf]; omega
      · rw [if_neg hn] at hst
        have b1 : decide (n < 0) = false := decide_eq_false hn
        have HST := Lib.hid hst
        have HROW := Lib.hid hrow
        have HRI := Lib.hid hri
        clear hst hn hR hrow hri
        go_wp2
        clear c1
        have hsA := hfr.size
        have HFR := Lib.hid hfr
        clear hfr c2
        go_loopw [6, 7, 8] (fun v lb i wq => ∃ (j : Nat) (bb : Bool), j ≤ out.length ∧ i = .int .i64 j ∧ lb = .bool bb ∧ wq.ownsRow wA.heap.size 3 1 v (foldO n (out.take j)).1.length ((foldO n (out.take j)).1.map encI) ∧ Hid (bb = (foldO n (out.take j)).2) ∧ Fr (fun _ => False) wA wq) (fun _ _ i _ => out.length - (intOf i).toNat)
        case atStart => exact ⟨0, false, Nat.zero_le _, rfl, rfl, World.ownsRow_nil _ _ _ _, rfl, Fr.refl _ _⟩
        case round =>
          obtain ⟨j, lb, hj, rfl, rfl, hrw, hlb, hfq⟩ := hrel
          have hfl := foldO_len n out j hj
          by_cases hjt : j < out.length
          · obtain ⟨g2, cp2, hv2, d1⟩ := row_elem1 encI (ownsRow_fr HROW.out hfq (fun _ _ h => h)) hjt
            cases hv2
            have hel : ∀ W, Fr (fun _ => False) wA W → W.cell? ⟨g2, j, none⟩ = some (.int .i64 out[j]) := fun W hf => by
              obtain ⟨g', c', hv', hc'⟩ := row_elem1 encI (ownsRow_fr HROW.out hf (fun _ _ h => h)) hjt
              cases hv'
              exact hc'
            have hfo := foldO_take (n := n) hjt
            simp only [encI] at d1
            generalize out[j] = x at *
            have HEL := Lib.hid hel
            clear hel
            obtain ⟨st, hste⟩ : ∃ st, foldO n (out.take j) = st := ⟨_, rfl⟩
            rw [hste] at hfo hrw hlb hfl
            clear hste
            obtain ⟨L, lb0⟩ := st
            obtain rfl := hlb.out
            simp only at hrw hfl
            clear hlb
            have hkr := hrw.lt
            have hsz := hfq.size
            have s1 : L.length + 1 ≤ maxLen := by unfold maxLen; omega
            have s2 : (L.length + 1) * 8 ≤ 140737488355328 := by omega
            have s1' : L.length + 1 + 1 ≤ maxLen := by unfold maxLen; omega
            have s2' : (L.length + 1 + 1) * 8 ≤ 140737488355328 := by omega
            have s3 : ∀ o, wA.heap.size ≤ (wr.alloc o).heap.size := fun o => by rw [World.size_alloc]; omega
            by_cases hA : lb = false ∧ n ≤ x
            · obtain ⟨rfl, hle⟩ := hA
              have b2 : decide (n ≤ x) = true := decide_eq_true hle
              have b2' : decide (x ≥ n) = true := decide_eq_true hle
              by_cases hx : x = n
              · subst hx
                rw [show stepO x (L, false) x = (L ++ [x], true) by simp [stepO]] at hfo
                have b3 : (x != x) = false := by simp
                have HFO := Lib.hid hfo
                clear hfo hle
                go_wp2_with (at_builtin; refine wpList_append_own _ rfl _ _ 24 rfl wA.heap.size 3 i0 (.int .i64 0) 1 8 Try.underlying24 hi hz0 hz1 hz2 rfl (by decide) _ _ _ rfl (hrw.alloc _) ⟨wr.heap.size, 0, none⟩ 1 1 [.int .i64 x] rfl rfl (news_one wr 3 _) (by simp [Value.oneCell']) s1 s2 (s3 _) ?_; intro v' w4 hown1 hgrow1 hne_v'; have hf2 := (hfq.alloc (.cells #[.int .i64 x] 3)).grown hgrow1 (fun q e => Or.inr (hkr q e).1); have d2 := HEL.out _ hf2)
                go_roundw
                case rel => exact ⟨j + 1, true, by omega, by go_num, rfl, by rw [HFO.out, List.length_append, List.map_append]; exact hown1, Lib.hid (by rw [HFO.out]), hf2⟩
                case measure => simp [intOf]; omega
              · rw [show stepO n (L, false) x = (L ++ [n] ++ [x], true) by simp [stepO, hle, hx]] at hfo
                have b3 : (x != n) = true := by simpa using hx
                have HFO := Lib.hid hfo
                clear hfo hle hx
                go_wp2_with (first
                  | (at_builtin; refine wpList_append_own _ rfl _ _ 24 rfl wA.heap.size 3 i0 (.int .i64 0) 1 8 Try.underlying24 hi hz0 hz1 hz2 rfl (by decide) _ _ _ rfl (hrw.alloc _) ⟨wr.heap.size, 0, none⟩ 1 1 [.int .i64 n] rfl rfl (news_one wr 3 _) (by simp [Value.oneCell']) s1 s2 (s3 _) ?_; intro v' w4 hown1 hgrow1 hne_v'; have hf2 := (hfq.alloc (.cells #[.int .i64 n] 3)).grown hgrow1 (fun q e => Or.inr (hkr q e).1); have d2 := HEL.out _ hf2; clear hrw; have hs2 := hf2.size; have s4 : ∀ o, wA.heap.size ≤ (w4.alloc o).heap.size := fun o => by rw [World.size_alloc]; omega)
                  | (at_builtin; refine wpList_append_own _ rfl _ _ 24 rfl wA.heap.size 3 i0 (.int .i64 0) 1 8 Try.underlying24 hi hz0 hz1 hz2 rfl (by decide) _ _ _ rfl (hown1.alloc _) ⟨w4.heap.size, 0, none⟩ 1 1 [.int .i64 x] rfl rfl (news_one w4 3 _) (by simp [Value.oneCell']) s1' s2' (s4 _) ?_; intro v'' w5 hown2 hgrow2 hne_v''))
                go_roundw
                case rel => exact ⟨j + 1, true, by omega, by go_num, rfl, by rw [HFO.out]; simp only [List.length_append, List.length_cons, List.length_nil, List.map_append]; exact hown2, Lib.hid (by rw [HFO.out]), (hf2.alloc _).grown hgrow2 (fun q e => Or.inr (hown1.lt q e).1)⟩
                case measure => simp [intOf]; omega
            · by_cases hx : x = n
              · subst hx
                obtain rfl : lb = true := by
                  cases lb with
                  | true => rfl
                  | false => exact absurd ⟨rfl, Int.le_refl _⟩ hA
                rw [show stepO x (L, true) x = (L, true) by simp [stepO]] at hfo
                have b3 : (x != x) = false := by simp
                have HFO := Lib.hid hfo
                clear hfo hA
                go_wp2
                go_roundw
                case rel => exact ⟨j + 1, true, by omega, by go_num, rfl, by rw [HFO.out]; exact hrw, Lib.hid (by rw [HFO.out]), hfq⟩
                case measure => simp [intOf]; omega
              · rw [show stepO n (L, lb) x = (L ++ [x], lb) by simp only [stepO]; rw [if_neg hA, if_neg hx]] at hfo
                have b3 : (x != n) = true := by simpa using hx
                have HFO := Lib.hid hfo
                cases lb with
                | true =>
                  clear hfo hA hx
                  go_wp2_with (at_builtin; refine wpList_append_own _ rfl _ _ 24 rfl wA.heap.size 3 i0 (.int .i64 0) 1 8 Try.underlying24 hi hz0 hz1 hz2 rfl (by decide) _ _ _ rfl (hrw.alloc _) ⟨wr.heap.size, 0, none⟩ 1 1 [.int .i64 x] rfl rfl (news_one wr 3 _) (by simp [Value.oneCell']) s1 s2 (s3 _) ?_; intro v' w4 hown1 hgrow1 hne_v')
                  go_roundw
                  case rel => exact ⟨j + 1, true, by omega, by go_num, rfl, by rw [HFO.out, List.length_append, List.map_append]; exact hown1, Lib.hid (by rw [HFO.out]), (hfq.alloc _).grown hgrow1 (fun q e => Or.inr (hkr q e).1)⟩
                  case measure => simp [intOf]; omega
                | false =>
                  have hle : ¬ n ≤ x := fun h => hA ⟨rfl, h⟩
                  have b2 : decide (n ≤ x) = false := decide_eq_false hle
                  have b2' : decide (x ≥ n) = false := decide_eq_false hle
                  clear hfo hA hx hle
                  go_wp2_with (at_builtin; refine wpList_append_own _ rfl _ _ 24 rfl wA.heap.size 3 i0 (.int .i64 0) 1 8 Try.underlying24 hi hz0 hz1 hz2 rfl (by decide) _ _ _ rfl (hrw.alloc _) ⟨wr.heap.size, 0, none⟩ 1 1 [.int .i64 x] rfl rfl (news_one wr 3 _) (by simp [Value.oneCell']) s1 s2 (s3 _) ?_; intro v' w4 hown1 hgrow1 hne_v')
                  go_roundw
                  case rel => exact ⟨j + 1, false, by omega, by go_num, rfl, by rw [HFO.out, List.length_append, List.map_append]; exact hown1, Lib.hid (by rw [HFO.out]), (hfq.alloc _).grown hgrow1 (fun q e => Or.inr (hkr q e).1)⟩
                  case measure => simp [intOf]; omega
          · obtain rfl : j = out.length := by omega
            rw [List.take_length] at hrw hlb hfl
            have hins : insO n out = if (foldO n out).2 then (foldO n out).1 else (foldO n out).1 ++ [n] := rfl
            rw [← hlb.out] at hins
            generalize (foldO n out).1 = L at *
            clear hlb
            have hkr := hrw.lt
            have hsz := hfq.size
            have s1 : L.length + 1 ≤ maxLen := by unfold maxLen; omega
            have s2 : (L.length + 1) * 8 ≤ 140737488355328 := by omega
            have s3 : ∀ o, wA.heap.size ≤ (wr.alloc o).heap.size := fun o => by rw [World.size_alloc]; omega
            have HFQ := Lib.hid (HFR.out.then hfq)
            have HIN := Lib.hid hins
            obtain ⟨A', cap', rfl⟩ := row_shape hrw
            clear hins
            cases lb with
            | true =>
              go_wp2
              go_roundw
              case rel => exact ⟨k + 1, by omega, by go_num, by rw [HST.out, HIN.out, if_pos rfl]; exact ownsRow_base_a' hrw hsA, HFQ.out⟩
              case measure => simp [intOf]; omega
            | false =>
              go_wp2_with (at_builtin; refine wpList_append_own _ rfl _ _ 24 rfl wA.heap.size 3 i0 (.int .i64 0) 1 8 Try.underlying24 hi hz0 hz1 hz2 rfl (by decide) _ _ _ rfl (hrw.alloc _) ⟨wr.heap.size, 0, none⟩ 1 1 [.int .i64 n] rfl rfl (news_one wr 3 _) (by simp [Value.oneCell']) s1 s2 (s3 _) ?_; intro v' w4 hown1 hgrow1 hne_v')
              go_roundw
              case rel => exact ⟨k + 1, by omega, by go_num, by rw [HST.out, HIN.out, if_neg (by simp), List.length_append, List.map_append]; exact ownsRow_base_a' hown1 hsA, (HFQ.out.alloc _).grown hgrow1 (fun q e => Or.inr (Nat.le_trans hsA (hkr q e).1))⟩
              case measure => simp [intOf]; omega
    · obtain rfl : k = own.length := by omega
      rw [List.take_length] at hrow
      go_wp2
      go_ret
      exact ⟨_, rfl, hrow, hfr⟩

end Go.Proofs.Ytcefadbnmpjeiaa

/-
  The pool's laws: own, told, live.
-/
namespace Go.Proofs.Ytcefadbnmpjeiaa
open Go.RowKit Go.Maps Go.Shelf

section
variable {P : Program} {k : TypeId} {w w' : World} {m : Nat} {L : List (Lit × Value)}
theorem row_m {base : Nat} {e : TypeId} {size n : Nat} {v : Value} {xs : List Value} (h : MapL P k w m L) (hr : w.ownsRow base e size v n xs) (hf : Fr (fun i => i = m) w w') : w'.ownsRow base e size v n xs :=
  ownsRow_fr hr hf (fun k hk e => by subst e; obtain ⟨cur, hc⟩ := ownsRow_block hr hk; exact h.no_cells hc)
theorem blk_m {g : Nat} {t : TypeId} {cs : Array Value} (h : MapL P k w m L) (hb : Blk w g t cs) (hf : Fr (fun i => i = m) w w') : Blk w' g t cs := hb.fr hf (fun e => h.ne_blk hb e.symm)
theorem Fr.hide {a : World} {m : Nat} {w w' : World} (h : Fr (fun _ => False) a w) (hf : Fr (fun i => i = m) w w') (hm : a.heap.size ≤ m) : Fr (fun _ => False) a w' := h.trans hf (fun i hi e => by omega)
end

set_option maxHeartbeats 1000000 in
theorem own36_any (l : LayD) (w : World) : Calls Try.prog 36 #[l.val] w fun e w' => e = .returned l.val ∧ Fr (fun _ => False) w w' := by
  obtain ⟨s, p⟩ := l
  simp only [LayD.val]
  go_enter Try.func36, Try.ntmps36
  go_wp2
  (try simp only [Exit.inBlock, Exit.then])
  refine bodyPost_ret (v := .agg #[.int .i64 s, .int .i64 p]) ?_ rfl ⟨rfl, ((Fr.refl _ w).alloc _).alloc _⟩
  rw [results_cell1 rfl]
  go_simp

set_option maxRecDepth 20000 in
set_option maxHeartbeats 2000000 in
theorem told67_any (w : World) (v : Value) (Ms : List Nat) (h : MsV w v Ms) (hl : Ms.length ≤ 1000) :
    Calls Try.prog 67 #[v] w fun e w' => ∃ v', e = .returned v' ∧ w'.ownsRow w.heap.size 40 4 v' Ms.length (flatM Ms) ∧ Fr (fun _ => False) w w' := by
  obtain ⟨j0, hj, hy0, hy1, hy2⟩ := info_parts info40
  have HH := Lib.hid h
  obtain ⟨A, cap, rfl, _⟩ := h
  go_enter Try.func67, Try.ntmps67
  go_wp2_with fail
  go_loopw [3, 4] (fun v i wr => ∃ k : Nat, k ≤ Ms.length ∧ i = .int .i64 k ∧ wr.ownsRow w.heap.size 40 4 v k (flatM (Ms.take k)) ∧ Fr (fun _ => False) w wr) (fun _ i _ => Ms.length - (intOf i).toNat)
  case atStart => exact ⟨0, Nat.zero_le _, rfl, World.ownsRow_nil _ _ _ _, Fr.refl _ _⟩
  case round =>
    obtain ⟨k, hk, rfl, hrow, hfr⟩ := hrel
    by_cases hlt : k < Ms.length
    · obtain ⟨B, cp, hv, hc⟩ := HH.out.fr0 hfr
      cases hv
      obtain ⟨g, off, rfl, c⟩ := hc k hlt
      obtain ⟨c0, c1, c2, c3⟩ := MsV.at4 c
      have HST := Lib.hid (show flatM (Ms.take (k + 1)) = flatM (Ms.take k) ++ [.int .u64 (wordM Ms[k] 0 : Nat), .int .u64 (wordM Ms[k] 1 : Nat), .int .u64 (wordM Ms[k] 2 : Nat), .int .u64 (wordM Ms[k] 3 : Nat)] by
        rw [List.take_succ_eq_append_getElem hlt, flatM_snoc])
      obtain ⟨A', cap', rfl⟩ := row_shape hrow
      generalize Ms[k] = M at *
      have hkr := hrow.lt
      have hsz := hfr.size
      clear c hc
      go_wp2_with (at_builtin; refine wpList_append_own _ rfl _ _ 52 rfl w.heap.size 40 j0 (.agg #[.int .u64 0, .int .u64 0, .int .u64 0, .int .u64 0]) 4 32 Try.underlying52 hj hy0 hy1 hy2 rfl (by decide) _ _ _ rfl (hrow.alloc _) ⟨wr.heap.size, 0, none⟩ 1 1 [.int .u64 (wordM M 0 : Nat), .int .u64 (wordM M 1 : Nat), .int .u64 (wordM M 2 : Nat), .int .u64 (wordM M 3 : Nat)] rfl rfl (news_one wr 40 _) (by simp [Value.oneCell']) (by unfold maxLen; omega) (by omega) (by simp; omega) ?_; intro v' w3 hown1 hgrow1 hne1)
      go_roundw
      case rel => exact ⟨k + 1, by omega, by go_num, by rw [HST.out]; exact hown1, (hfr.alloc _).grown hgrow1 (fun q e => Or.inr (hkr q e).1)⟩
      case measure => simp [intOf]; omega
    · obtain rfl : k = Ms.length := by omega
      rw [List.take_length] at hrow
      go_wp2
      go_ret
      exact ⟨_, rfl, hrow, hfr⟩

theorem pl_check : (⟨1, 4⟩ : LayD).check = 0 := by decide +kernel
theorem pl_r1 : reserveP ⟨1, 4⟩ [] 7 ⟨0, 1, 3, 0⟩ = (([7], 0), [(7, (7, false))]) := by decide +kernel
theorem pl_r2 : reserveP ⟨1, 4⟩ [(7, (7, false))] 7 ⟨0, 1, 1, 0⟩ = (([], 14), [(7, (7, false))]) := by decide +kernel
theorem pl_r3 : reserveP ⟨1, 4⟩ [(7, (7, false))] 8 ⟨0, 2, 1, 0⟩ = (([], 12), [(7, (7, false))]) := by decide +kernel
theorem pl_o1 : ofP [(7, (7, false))] 7 = (7, false) := by decide +kernel
theorem pl_c1 : commitP [(7, (7, false))] 7 = ([(7, (7, true))], 0) := by decide +kernel
theorem pl_o2 : ofP [(7, (7, true))] 7 = (7, true) := by decide +kernel
theorem pl_t1 : takeP ⟨1, 4⟩ [(7, (7, true))] 9 12 = (12, [(7, (7, true))]) := by decide +kernel
theorem pl_t2 : takeP ⟨1, 4⟩ [(7, (7, true))] 9 8 = (0, [(9, (8, true)), (7, (7, true))]) := by decide +kernel
theorem pl_e1 : releaseP [(9, (8, true)), (7, (7, true))] 7 = ([(9, (8, true))], 0) := by decide +kernel
theorem pl_f1 : freeP ⟨1, 4⟩ [(9, (8, true))] = 7 := by decide +kernel
theorem pl_s1 : ownersS [(9, (8, true))] = [9] := by decide +kernel
theorem pl_e2 : releaseP [(9, (8, true))] 7 = ([(9, (8, true))], 14) := by decide +kernel
theorem pl_n0 : (⟨0, 0⟩ : LayD).check = 1 := by decide +kernel
theorem pl_w (r q : Int) : (⟨0, r, q, 0⟩ : WishD).val = .agg #[.int .u64 0, .int .u64 0, .int .u64 0, .int .u64 0, .int .i64 r, .int .i64 q, .int .i64 0] := by simp [WishD.val, WishD.cells, wordM]
theorem pl_v7 : valM 7 = .agg #[.int .u64 7, .int .u64 0, .int .u64 0, .int .u64 0] := by simp [valM, cellsM, wordM]
theorem pl_v8 : valM 8 = .agg #[.int .u64 8, .int .u64 0, .int .u64 0, .int .u64 0] := by simp [valM, cellsM, wordM]
theorem pl_v12 : valM 12 = .agg #[.int .u64 12, .int .u64 0, .int .u64 0, .int .u64 0] := by simp [valM, cellsM, wordM]
theorem pl_flat : flatM [7] = [.int .u64 7, .int .u64 0, .int .u64 0, .int .u64 0] := by simp [flatM, cellsM, wordM]; decide

set_option maxRecDepth 40000 in
set_option maxHeartbeats 4000000 in
theorem live34_any (w : World) : Calls Try.prog 34 #[] w fun e w' => e = .returned (.bool true) ∧ Fr (fun _ => False) w w' := by
  have H35 := Lib.hid (fun W => new35_any ⟨1, 4⟩ pl_check W)
  have h35' := fun W => new35_nil ⟨0, 0⟩ (by rw [pl_n0]; decide) W
  have w7 : wf64 7 := by unfold wf64; omega
  have w8 : wf64 8 := by unfold wf64; omega
  have w9 : wf64 9 := by unfold wf64; omega
  have r1 := fun W b m (hP : PoolAt W b m ⟨1, 4⟩ []) => reserve46_any W b m ⟨1, 4⟩ [] hP 7 w7 ⟨0, 1, 3, 0⟩ (by decide) _ rfl
  rw [pl_r1, pl_w] at r1
  have r2 := fun W b m (hP : PoolAt W b m ⟨1, 4⟩ [(7, (7, false))]) => reserve46_any W b m ⟨1, 4⟩ _ hP 7 w7 ⟨0, 1, 1, 0⟩ (by decide) _ rfl
  rw [pl_r2, pl_w] at r2
  have r3 := fun W b m (hP : PoolAt W b m ⟨1, 4⟩ [(7, (7, false))]) => reserve46_any W b m ⟨1, 4⟩ _ hP 8 w8 ⟨0, 2, 1, 0⟩ (by decide) _ rfl
  rw [pl_r3, pl_w] at r3
  have o1 := fun W b m (hP : PoolAt W b m ⟨1, 4⟩ [(7, (7, false))]) => of43_any W b m ⟨1, 4⟩ _ hP 7 w7
  rw [pl_o1] at o1
  have c1 := fun W b m (hP : PoolAt W b m ⟨1, 4⟩ [(7, (7, false))]) => commit48_any W b m ⟨1, 4⟩ _ hP 7 w7 (by decide)
  rw [pl_c1] at c1
  have o2 := fun W b m (hP : PoolAt W b m ⟨1, 4⟩ [(7, (7, true))]) => of43_any W b m ⟨1, 4⟩ _ hP 7 w7
  rw [pl_o2] at o2
  have t1 := fun W b m (hP : PoolAt W b m ⟨1, 4⟩ [(7, (7, true))]) => take47_any W b m ⟨1, 4⟩ _ hP 9 w9 12 (by decide) (by decide) _ rfl
  rw [pl_t1, pl_v12] at t1
  have t2 := fun W b m (hP : PoolAt W b m ⟨1, 4⟩ [(7, (7, true))]) => take47_any W b m ⟨1, 4⟩ _ hP 9 w9 8 (by decide) (by decide) _ rfl
  rw [pl_t2, pl_v8] at t2
  have e1 := fun W b m (hP : PoolAt W b m ⟨1, 4⟩ [(9, (8, true)), (7, (7, true))]) => release45_any W b m ⟨1, 4⟩ _ hP 7 w7
  rw [pl_e1] at e1
  have f1 := fun W b m (hP : PoolAt W b m ⟨1, 4⟩ [(9, (8, true))]) => free39_any W b m ⟨1, 4⟩ _ hP
  rw [pl_f1, pl_v7] at f1
  have s1 := fun W b m (hP : PoolAt W b m ⟨1, 4⟩ [(9, (8, true))]) => owners41_any W b m ⟨1, 4⟩ _ hP
  rw [pl_s1] at s1
  have e2 := fun W b m (hP : PoolAt W b m ⟨1, 4⟩ [(9, (8, true))]) => release45_any W b m ⟨1, 4⟩ _ hP 7 w7
  rw [pl_e2] at e2
  simp only [LayD.val, pl_v7] at h35' r1 r2 r3 o1 c1 o2 t1 t2 e1 f1 s1 e2
  have H35' := Lib.hid h35'
  have R1 := Lib.hid r1
  have R2 := Lib.hid r2
  have R3 := Lib.hid r3
  have O1 := Lib.hid o1
  have C1 := Lib.hid c1
  have O2 := Lib.hid o2
  have T1 := Lib.hid t1
  have T2 := Lib.hid t2
  have E1 := Lib.hid e1
  have F1 := Lib.hid f1
  have S1 := Lib.hid s1
  have E2 := Lib.hid e2
  clear h35' r1 r2 r3 o1 c1 o2 t1 t2 e1 f1 s1 e2 w7 w8 w9
  have q7 : ∀ W, (Op.equalIn 10000 33 (.agg #[.int .u64 7, .int .u64 0, .int .u64 0, .int .u64 0]) (.agg #[.int .u64 7, .int .u64 0, .int .u64 0, .int .u64 0])).run Try.prog W = .ok true W := fun W => eq_words _ _ _ _ _ _ _ _ 33 Try.underlying33 W
  have Q7 := Lib.hid q7
  clear q7
  go_enter Try.func34, Try.ntmps34
  go_wp2_with fail
  refine (H35.out _).mono ?_
  rintro e w1 ⟨b, m, rfl, hb, hm, hP1, hf1⟩
  have HP1 := Lib.hid hP1
  have G1 := Lib.hid hf1
  clear hP1 hf1
  go_wp2_with fail
  refine (R1.out _ b m HP1.out).mono ?_
  rintro e w2 ⟨v1, rfl, hrow2, hP2, hf2⟩
  have HP2 := Lib.hid hP2
  have G2 := Lib.hid (G1.out.hide hf2 hm)
  have HV2 := Lib.hid hrow2
  clear hP2 hf2 hrow2
  go_wp2_with fail
  refine (R2.out _ b m HP2.out).mono ?_
  rintro e w3 ⟨v2, rfl, hrow3, hP3, hf3⟩
  have HP3 := Lib.hid hP3
  have G3 := Lib.hid (G2.out.hide hf3 hm)
  have HV3 := Lib.hid (row_m HP2.out.map HV2.out hf3)
  clear hP3 hf3 hrow3
  go_wp2_with fail
  refine (R3.out _ b m HP3.out).mono ?_
  rintro e w4 ⟨v3, rfl, hrow4, hP4, hf4⟩
  have HP4 := Lib.hid hP4
  have G4 := Lib.hid (G3.out.hide hf4 hm)
  have HV4 := Lib.hid (row_m HP3.out.map HV3.out hf4)
  clear hP4 hf4 hrow4
  go_wp2_with fail
  refine (O1.out _ b m HP4.out).mono ?_
  rintro e w5 ⟨rfl, hf5⟩
  have HP5 := Lib.hid ((HP4.out.fr0 hf5).fr0 ((Fr.refl _ w5).alloc (.cells #[.int .u64 7, .int .u64 0, .int .u64 0, .int .u64 0] 33)))
  have G5 := Lib.hid ((G4.out.then hf5).alloc (.cells #[.int .u64 7, .int .u64 0, .int .u64 0, .int .u64 0] 33))
  have HV5 := Lib.hid ((ownsRow_fr HV4.out hf5 (fun _ _ h => h)).alloc (.cells #[.int .u64 7, .int .u64 0, .int .u64 0, .int .u64 0] 33))
  have HA5 := Lib.hid (Blk.new w5 33 #[.int .u64 7, .int .u64 0, .int .u64 0, .int .u64 0])
  clear hf5
  go_wp2_with fail
  refine (C1.out _ b m HP5.out).mono ?_
  rintro e w6 ⟨rfl, hP6, hf6⟩
  have HP6 := Lib.hid hP6
  have G6 := Lib.hid (G5.out.hide hf6 hm)
  have HV6 := Lib.hid (row_m HP5.out.map HV5.out hf6)
  have HA6 := Lib.hid (blk_m HP5.out.map HA5.out hf6)
  clear hP6 hf6
  go_wp2_with fail
  refine (O2.out _ b m HP6.out).mono ?_
  rintro e w7 ⟨rfl, hf7⟩
  have HP7 := Lib.hid ((HP6.out.fr0 hf7).fr0 ((Fr.refl _ w7).alloc (.cells #[.int .u64 7, .int .u64 0, .int .u64 0, .int .u64 0] 33)))
  have G7 := Lib.hid ((G6.out.then hf7).alloc (.cells #[.int .u64 7, .int .u64 0, .int .u64 0, .int .u64 0] 33))
  have HV7 := Lib.hid ((ownsRow_fr HV6.out hf7 (fun _ _ h => h)).alloc (.cells #[.int .u64 7, .int .u64 0, .int .u64 0, .int .u64 0] 33))
  have HA7 := Lib.hid ((HA6.out.fr hf7 (fun h => h)).alloc (.cells #[.int .u64 7, .int .u64 0, .int .u64 0, .int .u64 0] 33))
  clear hf7
  go_wp2_with fail
  refine (T1.out _ b m HP7.out).mono ?_
  rintro e w8 ⟨rfl, hP8, hf8⟩
  have HP8 := Lib.hid hP8
  have G8 := Lib.hid (G7.out.hide hf8 hm)
  have HV8 := Lib.hid (row_m HP7.out.map HV7.out hf8)
  have HA8 := Lib.hid (blk_m HP7.out.map HA7.out hf8)
  clear hP8 hf8
  go_wp2_with fail
  refine (T2.out _ b m HP8.out).mono ?_
  rintro e w9 ⟨rfl, hP9, hf9⟩
  have HP9 := Lib.hid hP9
  have G9 := Lib.hid (G8.out.hide hf9 hm)
  have HV9 := Lib.hid (row_m HP8.out.map HV8.out hf9)
  have HA9 := Lib.hid (blk_m HP8.out.map HA8.out hf9)
  clear hP9 hf9
  go_wp2_with fail
  refine (E1.out _ b m HP9.out).mono ?_
  rintro e wa ⟨rfl, hPa, hfa⟩
  have HPa := Lib.hid hPa
  have Ga := Lib.hid (G9.out.hide hfa hm)
  have HVa := row_m HP9.out.map HV9.out hfa
  have hAa := blk_m HP9.out.map HA9.out hfa
  clear hPa hfa
  obtain ⟨g2, cap2, rfl⟩ := row_succ (k := 0) HVa
  rw [pl_flat] at HVa
  have c0 := row_cell HVa rfl (i := 0) (u := .int .u64 7) rfl
  have c1 := row_cell HVa rfl (i := 1) (u := .int .u64 0) rfl
  have c2 := row_cell HVa rfl (i := 2) (u := .int .u64 0) rfl
  have c3 := row_cell HVa rfl (i := 3) (u := .int .u64 0) rfl
  have y := fun i => hAa.cell i
  have q7 := Q7.out
  clear hAa HVa
  go_wp2_with fail
  refine (F1.out _ b m HPa.out).mono ?_
  rintro e wb ⟨rfl, hfb⟩
  clear c0 c1 c2 c3 y
  have HPb := Lib.hid (HPa.out.fr0 hfb)
  have Gb := Lib.hid (Ga.out.then hfb)
  clear hfb
  go_wp2_with fail
  refine (S1.out _ b m HPb.out).mono ?_
  rintro e wc ⟨v9, rfl, hrowc, hfc⟩
  have HPc := Lib.hid ((HPb.out.fr0 hfc).fr0 ((Fr.refl _ wc).alloc (.cells (List.map encI [9]).toArray 3)))
  have Gc := Lib.hid ((Gb.out.then hfc).alloc (.cells (List.map encI [9]).toArray 3))
  have hic := (IntsV.of_row hrowc).fr0 ((Fr.refl _ wc).alloc (.cells (List.map encI [9]).toArray 3))
  have il := ints_lit wc [9] (by simp [maxLen])
  clear hfc hrowc
  go_wp2_with fail
  refine (same_any _ v9 _ [9] [9] hic il (by simp [maxLen]) (by simp [maxLen]) true rfl).mono ?_
  rintro e wd ⟨rfl, hfd⟩
  clear hic il
  go_wp2_with fail
  refine (E2.out _ b m (HPc.out.fr0 hfd)).mono ?_
  rintro e we ⟨rfl, hPe, hfe⟩
  have Ge := Lib.hid ((Gc.out.then hfd).hide hfe hm)
  clear hPe hfe hfd
  go_wp2_with fail
  refine (H35'.out _).mono ?_
  rintro e wf ⟨rfl, hff⟩
  go_wp2_with fail
  go_ret
  exact ⟨rfl, Ge.out.then hff⟩

end Go.Proofs.Ytcefadbnmpjeiaa
