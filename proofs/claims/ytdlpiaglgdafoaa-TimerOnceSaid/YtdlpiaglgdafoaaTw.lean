/-
  All deadlines of a list set: the plain law.
-/
import Derived.Test.YtdlpiaglgdafoaaTv
namespace Go.Proofs.Ytdlpiaglgdafoaa
open Go.RowKit Go.Maps

def entN (ns : List Int) (i : Nat) : KeyD := (ns.getD i 0, (i : Nat))

/-- The deadlines 0 .. j-1 of ns. -/
structure AllOf (ns : List Int) (j : Nat) (S : List KeyD) : Prop where
  ok : QOk S
  perm : S.Perm ((List.range j).map (entN ns))

section
variable {ns : List Int} {j : Nat} {S : List KeyD}
theorem AllOf.len (h : AllOf ns j S) : S.length = j := by rw [h.perm.length_eq, List.length_map, List.length_range]
theorem AllOf.nil : AllOf ns 0 [] := ⟨QOk.nil, List.Perm.refl _⟩
theorem AllOf.mem (h : AllOf ns j S) {p : KeyD} : p ∈ S ↔ ∃ i, i < j ∧ entN ns i = p := by
  rw [h.perm.mem_iff, List.mem_map]
  simp [List.mem_range]
theorem AllOf.has (h : AllOf ns j S) (id : Int) : hasK id S = decide (0 ≤ id ∧ id < (j : Int)) := by
  by_cases hi : 0 ≤ id ∧ id < (j : Int)
  · rw [decide_eq_true hi]
    exact hasK_iff.2 ⟨entN ns id.toNat, h.mem.2 ⟨id.toNat, by omega, rfl⟩, by simp only [entN]; omega⟩
  · rw [decide_eq_false hi]
    cases hh : hasK id S with
    | false => rfl
    | true =>
      obtain ⟨p, hp, e⟩ := hasK_iff.1 hh
      obtain ⟨i, hij, rfl⟩ := h.mem.1 hp
      simp only [entN] at e
      omega
theorem AllOf.no (h : AllOf ns j S) : hasK (j : Nat) S = false := by
  rw [h.has]
  exact decide_eq_false (by omega)
theorem AllOf.set (h : AllOf ns j S) (hj : j < ns.length) (h0 : setN S (j : Nat) ns[j] = 0) : AllOf ns (j + 1) (setK S (j : Nat) ns[j]) := by
  refine ⟨h.ok.set _ _, ?_⟩
  unfold setK
  rw [if_pos h0, remK_none h.no]
  refine (insK_perm _ _).trans ?_
  rw [List.range_succ, List.map_append]
  have e : entN ns j = (ns[j], ((j : Nat) : Int)) := by
    unfold entN
    rw [List.getD_eq_getElem?_getD, List.getElem?_eq_getElem hj]
    rfl
  rw [List.map_cons, List.map_nil, e]
  exact (h.perm.cons _).trans (List.perm_append_singleton _ _).symm
theorem AllOf.getD (hi : j < ns.length) : entN ns j = (ns[j], ((j : Nat) : Int)) := by
  unfold entN
  rw [List.getD_eq_getElem?_getD, List.getElem?_eq_getElem hi]
  rfl
end

theorem srt_head {p x : KeyD} {r : List KeyD} (h : SrtK (p :: r)) (hx : x ∈ p :: r) : p.1 ≤ x.1 := by
  rcases List.mem_cons.1 hx with rfl | hx
  · exact Int.le_refl _
  · have := ltK_le ((List.pairwise_cons.1 h).1 x hx)
    unfold leK at this
    omega

/-- What is due at the first's time. -/
structure FirstDue (ns : List Int) (gone : Int) (p : KeyD) (D : List Int) : Prop where
  head : D[0]? = some p.2
  each : ∀ d ∈ D, d ≠ gone ∧ ∃ i : Nat, d = (i : Int) ∧ ∃ hi : i < ns.length, ns[i]'hi = p.1
  le : D.length ≤ 256

theorem first_due {ns : List Int} {S : List KeyD} {gone : Int} {p : KeyD} {r : List KeyD} (h : AllOf ns ns.length S) (e : remK gone S = p :: r) : FirstDue ns gone p (dueN (p :: r) p.1) := by
  have ho : QOk (p :: r) := by rw [← e]; exact h.ok.rem gone
  refine ⟨?_, fun d hd => ?_, ?_⟩
  · unfold dueN
    rw [List.filter_cons_of_pos (by simp)]
    rfl
  · unfold dueN at hd
    obtain ⟨x, hx, rfl⟩ := List.mem_map.1 hd
    obtain ⟨hx, hle⟩ := List.mem_filter.1 hx
    have hle : x.1 ≤ p.1 := by simpa using hle
    have hge := srt_head ho.srt hx
    rw [← e] at hx
    obtain ⟨hxS, hne⟩ := remK_mem hx
    obtain ⟨i, hi, rfl⟩ := h.mem.1 hxS
    refine ⟨hne, i, rfl, hi, ?_⟩
    rw [AllOf.getD hi] at hle hge
    simp only at hle hge
    omega
  · unfold dueN
    rw [List.length_map]
    exact Nat.le_trans (List.length_filter_le _ _) ho.le

theorem dueN_len (S : List KeyD) (now : Int) : (dueN S now).length + (dueK S now).length = S.length := by
  unfold dueN dueK
  rw [List.length_map]
  induction S with
  | nil => rfl
  | cons p r ih =>
    by_cases h : p.1 ≤ now
    · rw [List.filter_cons_of_pos (by simpa using h), List.filter_cons_of_neg (by simpa using h), List.length_cons, List.length_cons]
      omega
    · rw [List.filter_cons_of_neg (by simpa using h), List.filter_cons_of_pos (by simpa using h), List.length_cons, List.length_cons]
      omega

/-- A deadline, moved. -/
structure Moved (ns : List Int) (id to : Int) (S1 : List KeyD) : Prop where
  ok : QOk S1
  len : S1.length = ns.length
  mem : (to, id) ∈ S1
  other : ∀ x ∈ S1, x = (to, id) ∨ (x.2 ≠ id ∧ ∃ i : Nat, x.2 = (i : Int) ∧ ∃ hi : i < ns.length, ns[i]'hi = x.1)

theorem AllOf.move {ns : List Int} {S : List KeyD} (h : AllOf ns ns.length S) {id to : Int} (h0 : 0 ≤ id) (h1 : id < ns.length) (hs : setN S id to = 0) : Moved ns id to (setK S id to) := by
  have hh : hasK id S = true := by rw [h.has]; exact decide_eq_true ⟨h0, h1⟩
  have e : setK S id to = insK (to, id) (remK id S) := by unfold setK; rw [if_pos hs]
  have hp := insK_perm (to, id) (remK id S)
  refine ⟨h.ok.set _ _, ?_, ?_, fun x hx => ?_⟩
  · rw [e, hp.length_eq, List.length_cons, remK_len h.ok.ids hh, h.len]
  · rw [e]; exact hp.mem_iff.2 List.mem_cons_self
  · rw [e] at hx
    rcases List.mem_cons.1 (hp.mem_iff.1 hx) with rfl | hx
    · exact Or.inl rfl
    · obtain ⟨hx, hne⟩ := remK_mem hx
      obtain ⟨i, hi, rfl⟩ := h.mem.1 hx
      exact Or.inr ⟨hne, i, rfl, hi, by rw [AllOf.getD hi]⟩

theorem AllOf.move_code {ns : List Int} {S : List KeyD} (h : AllOf ns ns.length S) (hl : ns.length ≤ 60) {id to : Int} (h0 : 0 ≤ id) (h1 : id < ns.length) : setN S id to = 0 ∨ (setN S id to = 1 ∧ (to < 0 ∨ 1099511627776 < to)) := by
  have hh : hasK id S = true := by rw [h.has]; exact decide_eq_true ⟨h0, h1⟩
  have hm : mayB id = true := decide_eq_true (by omega)
  unfold setN badK
  rw [hh, hm]
  by_cases ht : 0 ≤ to ∧ to ≤ 1099511627776
  · rw [show mayB to = true from decide_eq_true ht]
    exact Or.inl rfl
  · rw [show mayB to = false from decide_eq_false ht]
    exact Or.inr ⟨rfl, by omega⟩

section
variable {ns : List Int} {id to : Int} {S1 : List KeyD}
theorem Moved.at_ (h : Moved ns id to S1) : atK id S1 = some to := atK_mem h.ok.ids h.mem
theorem Moved.early (h : Moved ns id to S1) {d : Int} (hd : d ∈ dueN S1 (to - 1)) : d ≠ id ∧ ∃ i : Nat, d = (i : Int) ∧ ∃ hi : i < ns.length, ns[i]'hi < to := by
  unfold dueN at hd
  obtain ⟨x, hx, rfl⟩ := List.mem_map.1 hd
  obtain ⟨hx, hle⟩ := List.mem_filter.1 hx
  have hle : x.1 ≤ to - 1 := by simpa using hle
  rcases h.other x hx with rfl | ⟨hne, i, e, hi, hv⟩
  · simp only at hle; omega
  · exact ⟨hne, i, e, hi, by omega⟩
theorem Moved.late (h : Moved ns id to S1) : id ∈ dueN (dueK S1 (to - 1)) to := by
  unfold dueN dueK
  exact List.mem_map.2 ⟨(to, id), List.mem_filter.2 ⟨List.mem_filter.2 ⟨h.mem, by simp; omega⟩, by simp⟩, rfl⟩
theorem Moved.late0 (h : Moved ns id to S1) : id ∈ dueN S1 to := by
  unfold dueN
  exact List.mem_map.2 ⟨(to, id), List.mem_filter.2 ⟨h.mem, by simp⟩, rfl⟩
end

end Go.Proofs.Ytdlpiaglgdafoaa
