/-
  The plain law of the books: the program's and the reference's agree.
-/
import Derived.Test.YtomoomopodihhaaNt
namespace Go.Proofs.Ytomoomopodihhaa
open Go.RowKit Go.Maps Go.Sort Go.Shelf

def insK (job n : Int) : List (Int × Int) → List (Int × Int)
  | [] => [(job, n)]
  | x :: K => if x.1 == job then (x.1, addS x.2 n) :: K else if job < x.1 then (job, n) :: x :: K else x :: insK job n K

def Asc (K : List (Int × Int)) : Prop := K.Pairwise fun a b => a.1 < b.1

theorem fold_laid (job n : Int) : ∀ (K acc : List (Int × Int)), (∀ x ∈ K, x.1 ≠ job) → K.foldl (stepR job n) (acc, true) = (acc ++ K, true)
  | [], acc, _ => by simp
  | x :: K, acc, h => by
    have h1 : (x.1 == job) = false := by simpa using h x (by simp)
    rw [List.foldl_cons, stepR, h1]
    simp only [Bool.false_eq_true, if_false, Bool.true_eq_false, false_and]
    rw [fold_laid job n K _ (fun y hy => h y (by simp [hy]))]
    simp

theorem fold_ins (job n : Int) : ∀ (K acc : List (Int × Int)), Asc K → (if (K.foldl (stepR job n) (acc, false)).2 then (K.foldl (stepR job n) (acc, false)).1 else (K.foldl (stepR job n) (acc, false)).1 ++ [(job, n)]) = acc ++ insK job n K
  | [], acc, _ => by simp [insK]
  | x :: K, acc, h => by
    obtain ⟨h1, h2⟩ := List.pairwise_cons.1 h
    rw [List.foldl_cons]
    unfold insK
    by_cases hx : x.1 = job
    · have e : (x.1 == job) = true := by simpa using hx
      rw [stepR, if_pos e, fold_laid job n K _ (fun y hy e2 => by have := h1 y hy; omega), if_pos e]
      simp
    · have e : (x.1 == job) = false := by simpa using hx
      rw [stepR, e]
      simp only [Bool.false_eq_true, if_false, true_and]
      by_cases hg : job < x.1
      · rw [if_pos hg, fold_laid job n K _ (fun y hy e2 => by have := h1 y hy; omega), if_pos hg]
        simp
      · rw [if_neg hg, fold_ins job n K _ h2, if_neg hg]
        simp

theorem putR_ins {job n : Int} {K : List (Int × Int)} (h : Asc K) : putR job n K = insK job n K := by
  have := fold_ins job n K [] h
  rw [List.nil_append] at this
  exact this

theorem insK_keys (job n : Int) : ∀ (K : List (Int × Int)), Asc K → ((insK job n K).map (·.1)).Perm (job :: (K.map (·.1)).filter (fun j => j != job))
  | [], _ => by simp [insK]
  | x :: K, h => by
    obtain ⟨h1, h2⟩ := List.pairwise_cons.1 h
    have hall : ∀ y ∈ K, x.1 < y.1 := h1
    unfold insK
    by_cases hx : x.1 = job
    · have e : (x.1 == job) = true := by simpa using hx
      have hf : (K.map (·.1)).filter (fun j => j != job) = K.map (·.1) := by
        rw [List.filter_eq_self]
        intro a ha
        obtain ⟨p, hp, rfl⟩ := List.mem_map.1 ha
        have := hall p hp
        simp only [bne_iff_ne, ne_eq]
        omega
      rw [if_pos e, List.map_cons, List.map_cons, List.filter_cons_of_neg (by simp [hx]), hf, hx]
    · have e : ¬ (x.1 == job) = true := by simpa using hx
      have hb : (x.1 != job) = true := by simpa using hx
      rw [if_neg e]
      by_cases hg : job < x.1
      · have hf : (K.map (·.1)).filter (fun j => j != job) = K.map (·.1) := by
          rw [List.filter_eq_self]
          intro a ha
          obtain ⟨p, hp, rfl⟩ := List.mem_map.1 ha
          have := hall p hp
          simp only [bne_iff_ne, ne_eq]
          omega
        rw [if_pos hg, List.map_cons, List.map_cons, List.filter_cons_of_pos (p := fun j => j != job) hb, hf]
      · rw [if_neg hg, List.map_cons, List.map_cons, List.filter_cons_of_pos (p := fun j => j != job) hb]
        exact ((insK_keys job n K h2).cons _).trans (List.Perm.swap _ _ _)

theorem insK_mem {job n : Int} {K : List (Int × Int)} {p : Int × Int} (hp : p ∈ insK job n K) : p ∈ K ∨ p.1 = job := by
  induction K with
  | nil => exact Or.inr (by simp [insK] at hp; simp [hp])
  | cons x K ih =>
    unfold insK at hp
    split at hp
    · rename_i hx
      rcases List.mem_cons.1 hp with rfl | hp
      · exact Or.inr (by simpa using hx)
      · exact Or.inl (by simp [hp])
    · split at hp
      · rcases List.mem_cons.1 hp with rfl | hp
        · exact Or.inr rfl
        · exact Or.inl hp
      · rcases List.mem_cons.1 hp with rfl | hp
        · exact Or.inl (by simp)
        · rcases ih hp with h | h
          · exact Or.inl (by simp [h])
          · exact Or.inr h

theorem insK_asc {job n : Int} : ∀ {K : List (Int × Int)}, Asc K → Asc (insK job n K)
  | [], _ => by simp [insK, Asc]
  | x :: K, h => by
    obtain ⟨h1, h2⟩ := List.pairwise_cons.1 h
    unfold insK
    split
    · exact List.pairwise_cons.2 ⟨h1, h2⟩
    · rename_i hx
      have hx : x.1 ≠ job := by simpa using hx
      split
      · rename_i hg
        refine List.pairwise_cons.2 ⟨fun y hy => ?_, h⟩
        rcases List.mem_cons.1 hy with rfl | hy
        · exact hg
        · have := h1 y hy; simp only; omega
      · rename_i hg
        refine List.pairwise_cons.2 ⟨fun y hy => ?_, insK_asc h2⟩
        rcases insK_mem hy with hy | hy
        · exact h1 y hy
        · omega

theorem insK_wf {job n : Int} {K : List (Int × Int)} (hj : wf64 job) (hn : wf64 n) (h : ∀ p ∈ K, wf64 p.1 ∧ wf64 p.2) : ∀ p ∈ insK job n K, wf64 p.1 ∧ wf64 p.2 := by
  induction K with
  | nil => intro p hp; simp only [insK, List.mem_singleton] at hp; subst hp; exact ⟨hj, hn⟩
  | cons x K ih =>
    intro p hp
    unfold insK at hp
    split at hp
    · rcases List.mem_cons.1 hp with rfl | hp
      · exact ⟨(h x (by simp)).1, (addS_wf _ _).1⟩
      · exact h p (by simp [hp])
    · split at hp
      · rcases List.mem_cons.1 hp with rfl | hp
        · exact ⟨hj, hn⟩
        · exact h p hp
      · rcases List.mem_cons.1 hp with rfl | hp
        · exact h _ (by simp)
        · exact ih (fun q hq => h q (by simp [hq])) p hp

theorem findK_cons (x : Int × Int) (K : List (Int × Int)) (j : Int) : findK (x :: K) j = if x.1 == j then some x.2 else findK K j := by
  unfold findK
  rw [List.find?_cons]
  cases x.1 == j <;> rfl

theorem findK_absent {K : List (Int × Int)} {j : Int} (h : ∀ p ∈ K, p.1 ≠ j) : findK K j = none := by
  induction K with
  | nil => rfl
  | cons x K ih =>
    rw [findK_cons, if_neg (by simpa using h x (by simp))]
    exact ih fun p hp => h p (by simp [hp])

theorem insK_find {job n : Int} (hn : wf64 n ∧ 0 ≤ n) : ∀ {K : List (Int × Int)}, Asc K → ∀ j, findK (insK job n K) j = if job = j then some (addS ((findK K job).getD 0) n) else findK K j
  | [], _, j => by
    have e : addS 0 n = n := by unfold addS; unfold wf64 at hn; omega
    simp only [insK, findK_cons]
    by_cases h : job = j
    · simp [h, findK, e]
    · simp [h]
  | x :: K, h, j => by
    obtain ⟨h1, h2⟩ := List.pairwise_cons.1 h
    have e0 : addS 0 n = n := by unfold addS; unfold wf64 at hn; omega
    unfold insK
    by_cases hx : x.1 = job
    · have e : (x.1 == job) = true := by simpa using hx
      rw [if_pos e, findK_cons, findK_cons, findK_cons, if_pos e]
      by_cases hj : job = j
      · rw [if_pos (by simpa using hx.trans hj), if_pos hj]; rfl
      · have : ¬ (x.1 == j) = true := by simp; omega
        rw [if_neg this, if_neg hj, if_neg this]
    · have e : ¬ (x.1 == job) = true := by simpa using hx
      rw [if_neg e]
      by_cases hg : job < x.1
      · have hab : findK (x :: K) job = none := findK_absent fun p hp => by
          rcases List.mem_cons.1 hp with rfl | hp
          · exact hx
          · have := h1 p hp; omega
        rw [if_pos hg, findK_cons, hab]
        by_cases hj : job = j
        · rw [if_pos (by simpa using hj), if_pos hj, Option.getD_none, e0]
        · rw [if_neg (by simpa using hj), if_neg hj]
      · rw [if_neg hg, findK_cons, insK_find hn h2 j, findK_cons, findK_cons, if_neg e]
        by_cases hj : job = j
        · have : ¬ (x.1 == j) = true := by simp; omega
          rw [if_neg this, if_pos hj, if_pos hj]
        · rw [if_neg hj, if_neg hj]

/-- The two books say the same. -/
structure SimB (M K : List (Int × Int)) : Prop where
  asc : Asc K
  keys : (M.map (·.1)).Perm (K.map (·.1))
  find : ∀ j, findK M j = findK K j
  wf : ∀ p ∈ K, wf64 p.1 ∧ wf64 p.2

theorem SimB.nil : SimB [] [] := ⟨List.Pairwise.nil, List.Perm.refl _, fun _ => rfl, by simp⟩
theorem SimB.len {M K : List (Int × Int)} (h : SimB M K) : M.length = K.length := by simpa using h.keys.length_eq

theorem ofS_wf (u : UseD) : wf64 (ofS u).1 ∧ 0 ≤ (ofS u).1 := by
  unfold ofS
  split
  · simp [wf64]
  · exact timesS_wf _ _

theorem SimB.note {M K : List (Int × Int)} (h : SimB M K) (u : UseD) (hu : u.wf) : (noteR K u).1 = (noteS M u).1 ∧ SimB (noteS M u).2 (noteR K u).2 := by
  unfold noteS noteR
  by_cases hb : u.bad
  · rw [if_pos hb, if_pos hb]; exact ⟨rfl, h⟩
  · rw [if_neg hb, if_neg hb]
    refine ⟨rfl, ?_⟩
    simp only
    rw [putR_ins h.asc]
    refine ⟨insK_asc h.asc, ?_, fun j => ?_, insK_wf hu.job (ofS_wf u).1 h.wf⟩
    · refine List.Perm.trans ?_ (insK_keys u.job (ofS u).1 K h.asc).symm
      unfold putK
      rw [List.map_cons]
      refine List.Perm.cons _ ?_
      have : ((M.filter fun p => p.1 != u.job).map (·.1)) = (M.map (·.1)).filter (fun j => j != u.job) := by rw [List.filter_map]; rfl
      rw [this]
      exact h.keys.filter _
    · rw [insK_find (ofS_wf u) h.asc j, ← h.find u.job]
      by_cases hj : u.job = j
      · subst hj
        rw [findK_put_same, if_pos rfl]
      · rw [findK_put_ne _ _ hj, if_neg hj, h.find j]

theorem asc_sorted {K : List (Int × Int)} (h : Asc K) : (K.map (·.1)).mergeSort (fun x y => decide (x ≤ y)) = K.map (·.1) := by
  refine List.mergeSort_of_pairwise ?_
  rw [List.pairwise_map]
  exact h.imp fun {a b} hab => by simp only [decide_eq_true_eq]; omega

theorem SimB.jobs {M K : List (Int × Int)} (h : SimB M K) : jobsS M = K.map (·.1) := by
  unfold jobsS
  rw [sort_perm_eq h.keys, asc_sorted h.asc]

theorem asc_find {K : List (Int × Int)} (h : Asc K) : ∀ p ∈ K, findK K p.1 = some p.2 := by
  induction K with
  | nil => simp
  | cons x K ih =>
    obtain ⟨h1, h2⟩ := List.pairwise_cons.1 h
    intro p hp
    rw [findK_cons]
    rcases List.mem_cons.1 hp with rfl | hp
    · simp
    · have := h1 p hp
      rw [if_neg (by simp; omega)]
      exact ih h2 p hp

theorem SimB.rows {M K : List (Int × Int)} (h : SimB M K) : rowsS M = K := by
  unfold rowsS
  rw [h.jobs, List.map_map]
  have : ∀ p ∈ K, ((fun j => (j, (findK M j).getD 0)) ∘ fun p : Int × Int => p.1) p = p := fun p hp => by
    simp only [Function.comp]
    rw [h.find, asc_find h.asc p hp]
    rfl
  calc K.map ((fun j => (j, (findK M j).getD 0)) ∘ fun p : Int × Int => p.1) = K.map id := List.map_congr_left this
    _ = K := by simp

theorem noteS_len (M : List (Int × Int)) (u : UseD) : (noteS M u).2.length ≤ M.length + 1 := by
  unfold noteS putK
  split
  · simp
  · have := List.length_filter_le (fun p : Int × Int => p.1 != u.job) M
    simp only [List.length_cons]
    omega

end Go.Proofs.Ytomoomopodihhaa
