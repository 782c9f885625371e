/-
  The plain law of AcctRises: nothing falls, and order does not matter.
-/
import Derived.Test.YtomoomopodihhaaPl
namespace Go.Proofs.Ytomoomopodihhaa
open Go.RowKit Go.Maps Go.Sort Go.Shelf

/-- The book behind a list of uses; the reference's, too. -/
def bookS (l : List UseD) : List (Int × Int) := l.foldl (fun M u => (noteS M u).2) []
def bookR (l : List UseD) : List (Int × Int) := l.foldl (fun K u => (noteR K u).2) []

theorem bookS_snoc (l : List UseD) (u : UseD) : bookS (l ++ [u]) = (noteS (bookS l) u).2 := by simp [bookS]
theorem bookR_snoc (l : List UseD) (u : UseD) : bookR (l ++ [u]) = (noteR (bookR l) u).2 := by simp [bookR]

theorem snoc_ind {α : Type} {p : List α → Prop} (h0 : p []) (h1 : ∀ l a, p l → p (l ++ [a])) (l : List α) : p l := by
  have : p l.reverse.reverse := by
    generalize l.reverse = r
    induction r with
    | nil => exact h0
    | cons a r ih => rw [List.reverse_cons]; exact h1 _ _ ih
  rwa [List.reverse_reverse] at this

theorem book_sim {l : List UseD} (h : ∀ u ∈ l, u.wf) : SimB (bookS l) (bookR l) := by
  revert h
  refine snoc_ind (p := fun l => (∀ u ∈ l, u.wf) → SimB (bookS l) (bookR l)) (fun _ => SimB.nil) (fun l u ih h => ?_) l
  rw [bookS_snoc, bookR_snoc]
  exact ((ih fun v hv => h v (by simp [hv])).note u (h u (by simp))).2

theorem bookS_len (l : List UseD) : (bookS l).length ≤ l.length := by
  refine snoc_ind (p := fun l => (bookS l).length ≤ l.length) (by simp [bookS]) (fun l u ih => ?_) l
  rw [bookS_snoc]
  have := noteS_len (bookS l) u
  simp only [List.length_append, List.length_cons, List.length_nil]
  omega

/-- What was added for a job, in full. -/
def partOf (j : Int) (u : UseD) : Option Int := if ¬ u.bad ∧ u.job = j then some (ofS u).1 else none
def sumI (l : List Int) : Int := l.foldr (· + ·) 0

theorem sumI_nonneg {l : List Int} (h : ∀ x ∈ l, 0 ≤ x) : 0 ≤ sumI l := by
  induction l with
  | nil => simp [sumI]
  | cons x l ih =>
    have := ih fun y hy => h y (by simp [hy])
    have h1 := h x (by simp)
    show 0 ≤ x + sumI l
    omega
theorem sumI_append (a b : List Int) : sumI (a ++ b) = sumI a + sumI b := by
  induction a with
  | nil => simp [sumI]
  | cons x a ih => show x + sumI (a ++ b) = x + sumI a + sumI b; rw [ih]; omega
theorem sumI_perm {a b : List Int} (h : a.Perm b) : sumI a = sumI b := by
  induction h with
  | nil => rfl
  | cons x _ ih => show x + _ = x + _; rw [show List.foldr (· + ·) 0 _ = sumI _ from rfl, ih]; rfl
  | swap x y l => show y + (x + sumI l) = x + (y + sumI l); omega
  | trans _ _ h1 h2 => exact h1.trans h2

def partsOf (j : Int) (l : List UseD) : List Int := l.filterMap (partOf j)

theorem parts_nonneg {j : Int} {l : List UseD} : ∀ x ∈ partsOf j l, 0 ≤ x := by
  intro x hx
  obtain ⟨u, _, hu⟩ := List.mem_filterMap.1 hx
  unfold partOf at hu
  split at hu
  · cases hu; exact (ofS_wf u).2
  · cases hu

theorem book_find (j : Int) (l : List UseD) : findK (bookS l) j = if partsOf j l = [] then none else some (min (sumI (partsOf j l)) 9223372036854775807) := by
  refine snoc_ind (p := fun l => findK (bookS l) j = if partsOf j l = [] then none else some (min (sumI (partsOf j l)) 9223372036854775807)) rfl (fun l u ih => ?_) l
  rw [bookS_snoc]
  have hp : partsOf j (l ++ [u]) = partsOf j l ++ (partOf j u).toList := by
    unfold partsOf
    rw [List.filterMap_append, List.filterMap_cons]
    cases partOf j u <;> rfl
  have hnn := sumI_nonneg (parts_nonneg (j := j) (l := l))
  unfold noteS
  by_cases hb : u.bad
  · rw [if_pos hb]
    have : partOf j u = none := by unfold partOf; rw [if_neg (fun h => h.1 hb)]
    rw [hp, this, Option.toList_none, List.append_nil]
    exact ih
  · rw [if_neg hb]
    simp only
    by_cases hj : u.job = j
    · have : partOf j u = some (ofS u).1 := by unfold partOf; rw [if_pos ⟨hb, hj⟩]
      rw [hp, this, Option.toList_some, if_neg (by simp), ← hj, findK_put_same, sumI_append, hj, ih]
      have hn := ofS_wf u
      congr 1
      show addS _ _ = min (_ + ((ofS u).1 + 0)) _
      split
      · rename_i he
        rw [he]
        unfold addS sumI
        simp only [Option.getD_none, List.foldr_nil]
        omega
      · simp only [Option.getD_some]
        unfold addS
        omega
    · have : partOf j u = none := by unfold partOf; rw [if_neg (fun h => hj h.2)]
      rw [hp, this, Option.toList_none, List.append_nil, findK_put_ne _ _ hj]
      exact ih

theorem book_perm {l l' : List UseD} (h : l.Perm l') (j : Int) : findK (bookS l) j = findK (bookS l') j := by
  have hp : (partsOf j l).Perm (partsOf j l') := h.filterMap _
  rw [book_find, book_find, sumI_perm hp]
  by_cases he : partsOf j l = []
  · rw [if_pos he, if_pos (by rw [he] at hp; exact hp.nil_eq.symm)]
  · rw [if_neg he, if_neg (fun h2 => he (by rw [h2] at hp; exact hp.eq_nil))]

theorem asc_ext : ∀ {K K' : List (Int × Int)}, Asc K → Asc K' → (∀ j, findK K j = findK K' j) → K = K'
  | [], [], _, _, _ => rfl
  | [], y :: K', _, _, h => by
    have := h y.1
    rw [findK_cons, if_pos (by simp)] at this
    simp [findK] at this
  | x :: K, [], _, _, h => by
    have := h x.1
    rw [findK_cons, if_pos (by simp)] at this
    simp [findK] at this
  | x :: K, y :: K', ha, hb, h => by
    obtain ⟨a1, a2⟩ := List.pairwise_cons.1 ha
    obtain ⟨b1, b2⟩ := List.pairwise_cons.1 hb
    have nx : ∀ j, j ≤ x.1 → findK K j = none := fun j hj => findK_absent fun p hp => by have := a1 p hp; omega
    have ny : ∀ j, j ≤ y.1 → findK K' j = none := fun j hj => findK_absent fun p hp => by have := b1 p hp; omega
    have hxy : x.1 = y.1 := by
      rcases Int.lt_trichotomy x.1 y.1 with h1 | h1 | h1
      · have := h x.1
        rw [findK_cons, if_pos (by simp), findK_cons, if_neg (by simp; omega), ny _ (by omega)] at this
        cases this
      · exact h1
      · have := h y.1
        rw [findK_cons, if_neg (by simp; omega), nx _ (by omega), findK_cons, if_pos (by simp)] at this
        cases this
    have hv : x.2 = y.2 := by
      have := h x.1
      rw [findK_cons, if_pos (by simp), findK_cons, if_pos (by simp [hxy])] at this
      exact Option.some.inj this
    have hr : K = K' := asc_ext a2 b2 fun j => by
      have h0 := h j
      rw [findK_cons, findK_cons] at h0
      by_cases hj : x.1 = j
      · rw [nx j (by omega), ny j (by omega)]
      · rwa [if_neg (by simpa using hj), if_neg (by simp; omega)] at h0
    rw [hr]
    congr 1
    exact Prod.ext hxy hv

/-- In whatever order the uses are noted: the same. -/
theorem books_same {l l' : List UseD} (h : ∀ u ∈ l, u.wf) (hp : l.Perm l') : bookR l = bookR l' := by
  have h' : ∀ u ∈ l', u.wf := fun u hu => h u (hp.mem_iff.2 hu)
  have s1 := book_sim h
  have s2 := book_sim h'
  exact asc_ext s1.asc s2.asc fun j => by rw [← s1.find, ← s2.find, book_perm hp]

/-- .. and nothing falls. -/
def capS (K : List (Int × Int)) : Int := sumI (K.map fun p => max p.2 0)
theorem allS_cap (K : List (Int × Int)) : allS K = min (capS K) 9223372036854775807 := by
  refine snoc_ind (p := fun K => allS K = min (capS K) 9223372036854775807) rfl (fun K p ih => ?_) K
  have h1 : allS (K ++ [p]) = addS (allS K) p.2 := by simp [allS]
  have h2 : capS (K ++ [p]) = capS K + (max p.2 0 + 0) := by unfold capS; rw [List.map_append, sumI_append]; rfl
  have h3 : 0 ≤ capS K := sumI_nonneg fun x hx => by obtain ⟨q, _, rfl⟩ := List.mem_map.1 hx; omega
  rw [h1, h2, ih]
  unfold addS
  omega

theorem capS_ins (job n : Int) {K : List (Int × Int)} (h : ∀ p ∈ K, wf64 p.1 ∧ wf64 p.2) : capS K ≤ capS (insK job n K) := by
  induction K with
  | nil => show 0 ≤ max n 0 + 0; omega
  | cons x K ih =>
    have h1 := ih fun p hp => h p (by simp [hp])
    have h2 := (h x (by simp)).2
    have e1 : capS (x :: K) = max x.2 0 + capS K := rfl
    unfold insK
    split
    · have e2 : capS ((x.1, addS x.2 n) :: K) = max (addS x.2 n) 0 + capS K := rfl
      rw [e1, e2]
      unfold addS
      unfold wf64 at h2
      omega
    · split
      · have e2 : capS ((job, n) :: x :: K) = max n 0 + (max x.2 0 + capS K) := rfl
        rw [e1, e2]
        omega
      · have e2 : capS (x :: insK job n K) = max x.2 0 + capS (insK job n K) := rfl
        rw [e1, e2]
        omega

theorem rises_all {M K : List (Int × Int)} (h : SimB M K) (u : UseD) (hu : u.wf) : allS (rowsS M) ≤ allS (rowsS (noteS M u).2) := by
  have h' := (h.note u hu).2
  rw [h.rows, h'.rows, allS_cap, allS_cap]
  unfold noteR
  split
  · simp only; omega
  · have := capS_ins u.job (ofS u).1 h.wf
    simp only
    rw [putR_ins h.asc]
    omega

theorem rises_job {M K : List (Int × Int)} (h : SimB M K) (u : UseD) : (findK M u.job).getD 0 ≤ (findK (noteS M u).2 u.job).getD 0 := by
  unfold noteS
  split
  · simp only; omega
  · simp only
    rw [findK_put_same, Option.getD_some, h.find]
    have hw : wf64 ((findK K u.job).getD 0) := findK_wf h.wf u.job
    have hn := (ofS_wf u).1
    unfold addS
    unfold wf64 at hw hn
    omega

end Go.Proofs.Ytomoomopodihhaa
