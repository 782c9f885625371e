/-
  Heaps as lists, of no program.
-/
namespace Go.Proofs.Ytdlpiaglgdafoaa

/-- A deadline: when, whose. -/
abbrev KeyD := Int × Int
def ltK (a b : KeyD) : Bool := decide (a.1 < b.1 ∨ (a.1 = b.1 ∧ a.2 < b.2))
def leK (a b : KeyD) : Prop := a.1 < b.1 ∨ (a.1 = b.1 ∧ a.2 ≤ b.2)

theorem ltK_le {a b : KeyD} (h : ltK a b = true) : leK a b := by
  unfold ltK at h; unfold leK
  simp only [decide_eq_true_eq] at h
  omega
theorem ltK_not {a b : KeyD} (h : ltK a b = false) : leK b a := by
  unfold ltK at h; unfold leK
  simp only [decide_eq_false_iff_not] at h
  omega
theorem leK.trans {a b c : KeyD} (h : leK a b) (k : leK b c) : leK a c := by
  unfold leK at *
  omega
theorem leK.refl (a : KeyD) : leK a a := by unfold leK; omega
theorem leK.antisymm {a b : KeyD} (h : leK a b) (k : leK b a) : a = b := by
  unfold leK at *
  exact Prod.ext (by omega) (by omega)

/-- An entry: its block, its key. -/
abbrev EntD := Nat × KeyD
def ky (L : List EntD) (k : Nat) : KeyD := (L.getD k (0, (0, 0))).2

def swapL (L : List EntD) (i j : Nat) : List EntD := (L.set i (L.getD j (0, (0, 0)))).set j (L.getD i (0, (0, 0)))

theorem swapL_len (L : List EntD) (i j : Nat) : (swapL L i j).length = L.length := by simp [swapL]

theorem swapL_get (L : List EntD) {i j : Nat} (hi : i < L.length) (hj : j < L.length) (k : Nat) :
    (swapL L i j).getD k (0, (0, 0)) = if k = j then L.getD i (0, (0, 0)) else if k = i then L.getD j (0, (0, 0)) else L.getD k (0, (0, 0)) := by
  unfold swapL
  simp only [List.getD_eq_getElem?_getD, List.getElem?_set, List.length_set]
  by_cases h1 : j = k
  · subst h1
    simp [hj]
  · by_cases h2 : i = k
    · subst h2
      simp [h1, Ne.symm h1, hi]
    · simp [h1, h2, Ne.symm h1, Ne.symm h2]

theorem ky_swap (L : List EntD) {i j : Nat} (hi : i < L.length) (hj : j < L.length) (k : Nat) :
    ky (swapL L i j) k = if k = j then ky L i else if k = i then ky L j else ky L k := by
  unfold ky
  rw [swapL_get L hi hj]
  split
  · rfl
  · split <;> rfl

theorem swapL_perm (L : List EntD) {i j : Nat} (hi : i < L.length) (hj : j < L.length) : (swapL L i j).Perm L := by
  unfold swapL
  rw [List.getD_eq_getElem?_getD, List.getD_eq_getElem?_getD, List.getElem?_eq_getElem hi, List.getElem?_eq_getElem hj]
  exact List.set_set_perm hi hj

/-- The first n are a heap. -/
def HeapN (L : List EntD) (n : Nat) : Prop := ∀ k, 1 ≤ k → k < n → leK (ky L ((k - 1) / 2)) (ky L k)

/-- Going down, from i0, at i. -/
def DInv (L : List EntD) (n i0 i : Nat) : Prop :=
  (∀ k, 1 ≤ k → k < n → (k - 1) / 2 ≠ i → (k = i → i ≠ i0) → leK (ky L ((k - 1) / 2)) (ky L k)) ∧
  (∀ c, 1 ≤ c → c < n → (c - 1) / 2 = i → 1 ≤ i → leK (ky L ((i - 1) / 2)) (ky L c)) ∧ i0 ≤ i

/-- All but i stands well with its parent. -/
def UInv (L : List EntD) (n i : Nat) : Prop :=
  (∀ k, 1 ≤ k → k < n → k ≠ i → leK (ky L ((k - 1) / 2)) (ky L k)) ∧
  (∀ c, 1 ≤ c → c < n → (c - 1) / 2 = i → 1 ≤ i → leK (ky L ((i - 1) / 2)) (ky L c))

theorem DInv.step {L : List EntD} {n i0 i j : Nat} (h : DInv L n i0 i) (hn : n ≤ L.length) (hj : j < n) (hc : j = 2 * i + 1 ∨ j = 2 * i + 2)
    (hl : ltK (ky L j) (ky L i) = true) (ho : ∀ c, c < n → (c = 2 * i + 1 ∨ c = 2 * i + 2) → leK (ky L j) (ky L c)) : DInv (swapL L i j) n i0 j := by
  obtain ⟨h1, h2, h3⟩ := h
  have hij : i < j := by omega
  have hs := fun k => ky_swap L (i := i) (j := j) (by omega) (by omega) k
  refine ⟨fun k hk hkn hp _ => ?_, fun c hc1 hcn hcp hj1 => ?_, by omega⟩
  · rw [hs, hs]
    by_cases e1 : k = j
    · subst e1
      have e2 : (k - 1) / 2 = i := by omega
      rw [if_pos rfl, if_neg (by omega), if_pos e2]
      exact ltK_le hl
    · rw [if_neg e1, if_neg hp]
      by_cases e2 : k = i
      · subst e2
        rw [if_pos rfl, if_neg (by omega)]
        exact h2 j (by omega) hj (by omega) hk
      · rw [if_neg e2]
        by_cases e3 : (k - 1) / 2 = i
        · rw [if_pos e3]
          exact ho k hkn (by omega)
        · rw [if_neg e3]
          exact h1 k hk hkn e3 (fun h => absurd h e2)
  · rw [hs, hs]
    have e1 : (j - 1) / 2 = i := by omega
    rw [if_neg (by omega), if_pos e1, if_neg (by omega), if_neg (by omega)]
    have := h1 c hc1 hcn (by omega) (fun h => by omega)
    rw [hcp] at this
    exact this

theorem DInv.start {L : List EntD} {n i : Nat} (h1 : ∀ k, 1 ≤ k → k < n → k ≠ i → (k - 1) / 2 ≠ i → leK (ky L ((k - 1) / 2)) (ky L k))
    (h2 : ∀ c, 1 ≤ c → c < n → (c - 1) / 2 = i → 1 ≤ i → leK (ky L ((i - 1) / 2)) (ky L c)) : DInv L n i i :=
  ⟨fun k a b c d => h1 k a b (fun e => d e rfl) c, h2, Nat.le_refl _⟩

/-- No child is less: it is a heap, or, where it began, all but that. -/
theorem DInv.done {L : List EntD} {n i0 i : Nat} (h : DInv L n i0 i) (hc : ∀ c, c < n → (c = 2 * i + 1 ∨ c = 2 * i + 2) → leK (ky L i) (ky L c)) :
    (i0 < i ∧ HeapN L n) ∨ (i = i0 ∧ UInv L n i0) := by
  obtain ⟨h1, h2, h3⟩ := h
  have hk0 : ∀ k, 1 ≤ k → k < n → (k = i → i ≠ i0) → leK (ky L ((k - 1) / 2)) (ky L k) := fun k hk hkn hx => by
    by_cases e : (k - 1) / 2 = i
    · rw [e]; exact hc k hkn (by omega)
    · exact h1 k hk hkn e hx
  by_cases e : i = i0
  · subst e
    exact Or.inr ⟨rfl, fun k hk hkn hne => hk0 k hk hkn (fun e => absurd e hne), h2⟩
  · exact Or.inl ⟨by omega, fun k hk hkn => hk0 k hk hkn (fun _ => e)⟩

theorem UInv.step {L : List EntD} {n j : Nat} (h : UInv L n j) (hn : n ≤ L.length) (hj : j < n) (h0 : (j - 1) / 2 ≠ j) (hl : ltK (ky L j) (ky L ((j - 1) / 2)) = true) :
    UInv (swapL L ((j - 1) / 2) j) n ((j - 1) / 2) := by
  obtain ⟨h1, h2⟩ := h
  have hj1 : 1 ≤ j := by omega
  have hs := fun k => ky_swap L (i := (j - 1) / 2) (j := j) (by omega) (by omega) k
  generalize hi : (j - 1) / 2 = i at *
  have hij : i < j := by omega
  refine ⟨fun k hk hkn hne => ?_, fun c hc1 hcn hcp hi1 => ?_⟩
  · rw [hs, hs]
    by_cases e1 : k = j
    · subst e1
      rw [if_pos rfl, if_neg (by omega), if_pos hi]
      exact ltK_le hl
    · rw [if_neg e1, if_neg hne]
      by_cases e2 : (k - 1) / 2 = j
      · rw [if_pos e2]
        exact h2 k hk hkn e2 hj1
      · rw [if_neg e2]
        by_cases e3 : (k - 1) / 2 = i
        · rw [if_pos e3]
          have := h1 k hk hkn e1
          rw [e3] at this
          exact (ltK_le hl).trans this
        · rw [if_neg e3]
          exact h1 k hk hkn e1
  · rw [hs, hs]
    have hp := h1 i hi1 (by omega) (by omega)
    rw [if_neg (by omega), if_neg (by omega)]
    by_cases e1 : c = j
    · rw [if_pos e1]
      exact hp
    · rw [if_neg e1, if_neg (by omega)]
      have := h1 c hc1 hcn e1
      rw [hcp] at this
      exact hp.trans this

theorem UInv.done {L : List EntD} {n j : Nat} (h : UInv L n j) (hl : (j - 1) / 2 = j ∨ ltK (ky L j) (ky L ((j - 1) / 2)) = false) : HeapN L n := by
  intro k hk hkn
  by_cases e : k = j
  · subst e
    rcases hl with hl | hl
    · omega
    · exact ltK_not hl
  · exact h.1 k hk hkn e

theorem HeapN.root {L : List EntD} {n : Nat} (h : HeapN L n) (k : Nat) (hk : k < n) : leK (ky L 0) (ky L k) := by
  induction k using Nat.strongRecOn with
  | _ k ih =>
    by_cases h0 : k = 0
    · subst h0; exact leK.refl _
    · exact (ih ((k - 1) / 2) (by omega) (by omega)).trans (h k (by omega) hk)

theorem HeapN.less {L : List EntD} {n m : Nat} (h : HeapN L n) (hm : m ≤ n) : HeapN L m := fun k hk hkm => h k hk (by omega)

theorem HeapN.fix {L : List EntD} {n i : Nat} (h : HeapN L n) {L' : List EntD} (hs : ∀ k, k ≠ i → ky L' k = ky L k) : DInv L' n i i := by
  refine DInv.start (fun k hk hkn hne hp => ?_) (fun c hc hcn hp hi => ?_)
  · rw [hs _ hp, hs _ hne]; exact h k hk hkn
  · rw [hs _ (by omega), hs _ (by omega)]
    have h1 := h i hi (by omega)
    have h2 := h c hc hcn
    rw [hp] at h2
    exact h1.trans h2

/-- One more at the end. -/
theorem HeapN.push {L : List EntD} {n : Nat} (h : HeapN L n) {L' : List EntD} (hs : ∀ k, k < n → ky L' k = ky L k) : UInv L' (n + 1) n := by
  refine ⟨fun k hk hkn hne => ?_, fun c hc hcn hp hi => by omega⟩
  rw [hs _ (by omega), hs _ (by omega)]
  exact h k hk (by omega)

end Go.Proofs.Ytdlpiaglgdafoaa
