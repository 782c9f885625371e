/-
  The plain laws of 'ReplayRoom' and 'ReplayOnce'.
-/
import Derived.Test.YtclokfjcjpigpaaBkP
namespace Go.Proofs.Ytclokfjcjpigpaa
open Go.RowKit Go.Maps

/-- Nothing is taken back; what is kept lasts up to 'last' at most. -/
def Room (last : Int) (U : List (PKey × Int)) (K : List (Int × Int)) : Prop := K = [] ∧ ∀ p ∈ U, p.2 ≤ last

theorem Room.use {last most now : Int} {U : List (PKey × Int)} {K : List (Int × Int)} (h : Room last U K) (x : CredD) : Room (max last x.until_) (useR most U K x now).2 K := by
  obtain ⟨hk, hu⟩ := h
  have h1 : ∀ p ∈ U, p.2 ≤ max last x.until_ := fun p hp => by have := hu p hp; omega
  have h2 : ∀ p ∈ U.filter (fun p => decide (now < p.2)), p.2 ≤ max last x.until_ := fun p hp => h1 p (List.mem_filter.mp hp).1
  refine ⟨hk, ?_⟩
  unfold useR
  split
  · exact h1
  split
  · exact h1
  split
  · exact h1
  split
  · exact h2
  split
  · exact h2
  · intro p hp
    rcases List.mem_cons.mp hp with h | h
    · subst h; simp only; omega
    · exact h2 p h

theorem Room.last {last most : Int} {U : List (PKey × Int)} {K : List (Int × Int)} (h : Room last U K) (x : CredD) (hx : x.ok = true) (hl : last < x.until_) (hm : 1 ≤ most) :
    useR most U K x last = (0, [(x.key, x.until_)]) := by
  obtain ⟨rfl, hu⟩ := h
  have hf : U.filter (fun p => decide (last < p.2)) = [] := by
    rw [List.filter_eq_nil_iff]
    intro p hp
    have := hu p hp
    simp only [decide_eq_true_eq]; omega
  unfold useR
  rw [hf, if_neg (by simp [hx]), if_neg (by omega), if_neg (by simp [revokedP, findK]), if_neg (by simp [findU]), if_neg (by simp only [List.length_nil]; omega)]

/-- While the credential lasts, it is kept. -/
def OnceP (x : CredD) (now : Int) (U : List (PKey × Int)) (_ : List (Int × Int)) : Prop := now < x.until_ → findU U x.key = some x.until_

theorem findU_filter {U : List (PKey × Int)} {k : PKey} {u now : Int} (h : findU U k = some u) (hn : now < u) : findU (U.filter fun p => decide (now < p.2)) k = some u := by
  induction U with
  | nil => simp [findU] at h
  | cons p U ih =>
    unfold findU at h ih ⊢
    rw [List.find?_cons] at h
    cases hp : (p.1 == k) with
    | true =>
      simp only [hp, Option.map_some, Option.some.injEq] at h
      rw [List.filter_cons_of_pos (by simp only [h, decide_eq_true_eq]; exact hn), List.find?_cons]
      simp only [hp, Option.map_some, h]
    | false =>
      simp only [hp] at h
      by_cases hq : now < p.2
      · rw [List.filter_cons_of_pos (by simpa using hq), List.find?_cons]
        simp only [hp]
        exact ih h
      · rw [List.filter_cons_of_neg (by simpa using hq)]
        exact ih h

theorem findU_cons_ne {U : List (PKey × Int)} {k k' : PKey} {u : Int} (h : k' ≠ k) : findU ((k', u) :: U) k = findU U k := by
  unfold findU
  rw [List.find?_cons]
  have : (k' == k) = false := by simpa using h
  simp only [this]

theorem OnceP.use {x y : CredD} {now now' most : Int} {U : List (PKey × Int)} {K : List (Int × Int)} (h : OnceP x now U K) (hle : now ≤ now') : OnceP x now' (useR most U K y now').2 K := by
  intro hlt
  have h0 := h (by omega)
  have h1 := findU_filter h0 hlt
  unfold useR
  split
  · exact h0
  split
  · exact h0
  split
  · exact h0
  split
  · exact h1
  split
  · exact h1
  · rename_i hn _
    simp only
    rw [findU_cons_ne]
    · exact h1
    · intro he
      rw [he, h1] at hn
      simp at hn

theorem OnceP.later {x : CredD} {now now' : Int} {U : List (PKey × Int)} {K K' : List (Int × Int)} (h : OnceP x now U K) (hle : now ≤ now') : OnceP x now' U K' := fun hlt => h (by omega)

theorem OnceP.not_ok {x y : CredD} {now now' most : Int} {U : List (PKey × Int)} {K : List (Int × Int)} (h : OnceP x now U K) (hle : now ≤ now') (hk : y.key = x.key) (hlt : now' < x.until_) : (useR most U K y now').1 ≠ 0 := by
  have h1 := findU_filter (h (by omega)) hlt
  unfold useR
  split
  · simp
  split
  · simp
  split
  · simp
  split
  · simp
  · rename_i hn
    rw [hk, h1] at hn
    simp at hn

theorem OnceP.start {x : CredD} {now most : Int} {U : List (PKey × Int)} {K : List (Int × Int)} (h : (useR most U K x now).1 = 0) : OnceP x now (useR most U K x now).2 K := by
  intro _
  unfold useR at h ⊢
  split at h
  · cases h
  split at h
  · cases h
  split at h
  · cases h
  split at h
  · cases h
  split at h
  · cases h
  · rename_i h1 h2 h3 h4 h5
    rw [if_neg h1, if_neg h2, if_neg h3, if_neg h4, if_neg h5]
    simp [findU]

theorem OnceP.used {x : CredD} {now : Int} {U : List (PKey × Int)} {K : List (Int × Int)} (h : OnceP x now U K) (hlt : now < x.until_) : usedP U x.key now = true := by
  unfold usedP
  rw [h hlt]
  simpa using hlt

end Go.Proofs.Ytclokfjcjpigpaa
