/-
  Plain laws of CoresMore.
-/
import Derived.Test.YtcefadbnmpjeiaaAp
import Derived.Test.YtcefadbnmpjeiaaEach
namespace Go.Proofs.Ytcefadbnmpjeiaa
open Go.RowKit Go.Maps Go.Shelf

theorem hasM_or {M N : Nat} {c : Int} (h : hasM M c = true) : hasM (orM M N) c = true := by
  unfold hasM orM at *
  rw [Bool.and_eq_true] at *
  exact ⟨h.1, by rw [Nat.testBit_or, h.2]; rfl⟩

theorem filter_more {p q : Int → Bool} (h : ∀ c, p c = true → q c = true) (L : List Int) : (L.filter p).length ≤ (L.filter q).length := by
  induction L with
  | nil => simp
  | cons a r ih =>
    simp only [List.filter_cons]
    by_cases hp : p a = true
    · rw [if_pos hp, if_pos (h a hp)]; simpa using ih
    · rw [if_neg hp]
      by_cases hq : q a = true
      · rw [if_pos hq]; simp; omega
      · rw [if_neg hq]; exact ih

theorem refP_ok {l : LayD} {x : WishD} (h : (refP l x).2 = 0) : okW l x ∧ x.ranks.toNat * x.per.toNat ≤ ((l.order x.dist).filter (hasM x.free)).length ∧ (refP l x).1 = (List.range x.ranks.toNat).map fun i => makeM (part4 ((l.order x.dist).filter (hasM x.free)) x.per.toNat i) := by
  unfold refP refA at *
  by_cases ho : okW l x
  · rw [if_pos ho] at h ⊢
    by_cases hc : ((l.order x.dist).filter (hasM x.free)).length < x.ranks.toNat * x.per.toNat
    · rw [if_pos hc] at h; exact absurd h (by decide)
    · rw [if_neg hc]; exact ⟨ho, by omega, rfl⟩
  · rw [if_neg ho] at h; exact absurd h (by decide)

theorem refP_of {l : LayD} {x : WishD} (ho : okW l x) (hc : x.ranks.toNat * x.per.toNat ≤ ((l.order x.dist).filter (hasM x.free)).length) : refP l x = ((List.range x.ranks.toNat).map fun i => makeM (part4 ((l.order x.dist).filter (hasM x.free)) x.per.toNat i), 0) := by
  unfold refP refA
  rw [if_pos ho, if_neg (by omega)]

theorem more_plain {l : LayD} {F : Nat} {r q d : Int} (N : Nat) (h : (refP l ⟨F, r, q, d⟩).2 = 0) : (refP l ⟨orM F N, r, q, d⟩).2 = 0 := by
  obtain ⟨ho, hc, _⟩ := refP_ok h
  rw [refP_of (l := l) (x := ⟨orM F N, r, q, d⟩) ho (Nat.le_trans hc (filter_more (fun c hc => hasM_or hc) _))]

theorem less_plain {l : LayD} {F : Nat} {r q d : Int} (h : (refP l ⟨F, r, q, d⟩).2 = 0) (hr : 1 < r) :
    (refP l ⟨F, r - 1, q, d⟩).2 = 0 ∧ (refP l ⟨F, r, q, d⟩).1.length = (refP l ⟨F, r - 1, q, d⟩).1.length + 1 ∧ ∀ i : Nat, (refP l ⟨F, r - 1, q, d⟩).1[i]?.isSome = true → (refP l ⟨F, r, q, d⟩).1[i]? = (refP l ⟨F, r - 1, q, d⟩).1[i]? := by
  obtain ⟨ho, hc, h1⟩ := refP_ok h
  simp only at hc h1
  have hz : okW l ⟨F, r - 1, q, d⟩ := by
    obtain ⟨a, b, c⟩ := ho
    simp only at a b c
    exact ⟨a, by simp only; omega, c⟩
  have hn : (r - 1).toNat = r.toNat - 1 := by omega
  have hc2 : (r - 1).toNat * q.toNat ≤ ((l.order d).filter (hasM F)).length := Nat.le_trans (Nat.mul_le_mul_right _ (by omega)) hc
  rw [refP_of (l := l) (x := ⟨F, r - 1, q, d⟩) hz hc2, h1]
  simp only
  refine ⟨trivial, ?_, ?_⟩
  · rw [List.length_map, List.length_map, List.length_range, List.length_range]; omega
  · intro i hi
    have hi' : i < (r - 1).toNat := by
      simpa using hi
    rw [List.getElem?_map, List.getElem?_map, List.getElem?_range (by omega), List.getElem?_range hi']

theorem one_plain {l : LayD} {F : Nat} {r q d : Int} (hr : r ≤ 1) : refP l ⟨F, r - 1, q, d⟩ = ([], 1) := by
  unfold refP
  rw [if_neg]
  rintro ⟨_, b, _⟩
  simp only at b
  omega

end Go.Proofs.Ytcefadbnmpjeiaa
