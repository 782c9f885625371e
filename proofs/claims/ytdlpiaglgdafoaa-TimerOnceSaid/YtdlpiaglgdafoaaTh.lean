/-
  Deadlines as a list in order: the plain law.
-/
import Derived.Test.YtdlpiaglgdafoaaTg
namespace Go.Proofs.Ytdlpiaglgdafoaa
open Go.RowKit Go.Maps

def SrtK (S : List KeyD) : Prop := S.Pairwise fun a b => ltK a b = true
def mayB (n : Int) : Bool := decide (0 ≤ n ∧ n ≤ 1099511627776)
def remK (id : Int) (S : List KeyD) : List KeyD := S.filter fun p => p.2 != id
def hasK (id : Int) (S : List KeyD) : Bool := S.any fun p => p.2 == id
def atK (id : Int) (S : List KeyD) : Option Int := (S.find? fun p => p.2 == id).map (·.1)
def insK (x : KeyD) : List KeyD → List KeyD
  | [] => [x]
  | y :: r => if ltK x y then x :: y :: r else y :: insK x r
def badK (id at_ : Int) : Bool := !mayB id || !mayB at_
def setN (S : List KeyD) (id at_ : Int) : Int := if badK id at_ then 1 else if !hasK id S && S.length == 256 then 6 else 0
def setK (S : List KeyD) (id at_ : Int) : List KeyD := if setN S id at_ = 0 then insK (at_, id) (remK id S) else S
def dueN (S : List KeyD) (now : Int) : List Int := (S.filter fun p => decide (p.1 ≤ now)).map (·.2)
def dueK (S : List KeyD) (now : Int) : List KeyD := S.filter fun p => !decide (p.1 ≤ now)

structure QOk (S : List KeyD) : Prop where
  srt : SrtK S
  ids : (S.map (·.2)).Nodup
  may : ∀ p ∈ S, mayB p.1 = true ∧ mayB p.2 = true
  le : S.length ≤ 256

theorem mayB_wf {n : Int} (h : mayB n = true) : 0 ≤ n ∧ n ≤ 1099511627776 := by
  unfold mayB at h
  exact of_decide_eq_true h

theorem ltK_trans {a b c : KeyD} (h : ltK a b = true) (k : ltK b c = true) : ltK a c = true := by
  unfold ltK at *
  simp only [decide_eq_true_eq] at *
  omega
theorem ltK_of_not {a b : KeyD} (h : ltK a b = false) (hne : a.2 ≠ b.2) : ltK b a = true := by
  unfold ltK at *
  simp only [decide_eq_true_eq, decide_eq_false_iff_not] at *
  omega

theorem insK_perm (x : KeyD) : ∀ S, (insK x S).Perm (x :: S)
  | [] => List.Perm.refl _
  | y :: r => by
    unfold insK
    split
    · exact List.Perm.refl _
    · exact ((insK_perm x r).cons y).trans (List.Perm.swap x y r)
theorem insK_srt {x : KeyD} : ∀ {S : List KeyD}, SrtK S → (∀ p ∈ S, p.2 ≠ x.2) → SrtK (insK x S)
  | [], _, _ => List.pairwise_singleton _ _
  | y :: r, h, hx => by
    have h' := List.pairwise_cons.1 h
    unfold insK
    split
    · rename_i hxy
      refine List.pairwise_cons.2 ⟨fun z hz => ?_, h⟩
      rcases List.mem_cons.1 hz with rfl | hz
      · exact hxy
      · exact ltK_trans hxy (h'.1 z hz)
    · rename_i hxy
      refine List.pairwise_cons.2 ⟨fun z hz => ?_, insK_srt h'.2 (fun p hp => hx p (List.mem_cons_of_mem _ hp))⟩
      rcases List.mem_cons.1 ((insK_perm x r).mem_iff.1 hz) with rfl | hz
      · exact ltK_of_not (by simpa using hxy) (Ne.symm (hx y List.mem_cons_self))
      · exact h'.1 z hz

theorem remK_mem {id : Int} {S : List KeyD} {p : KeyD} (h : p ∈ remK id S) : p ∈ S ∧ p.2 ≠ id := by
  have := List.mem_filter.1 h
  exact ⟨this.1, by simpa using this.2⟩
theorem QOk.filter {S : List KeyD} (h : QOk S) (f : KeyD → Bool) : QOk (S.filter f) :=
  ⟨h.srt.filter _, (List.filter_sublist.map _).nodup h.ids, fun p hp => h.may p (List.mem_filter.1 hp).1, Nat.le_trans (List.length_filter_le _ _) h.le⟩
theorem QOk.rem {S : List KeyD} (h : QOk S) (id : Int) : QOk (remK id S) := h.filter _
theorem hasK_iff {id : Int} {S : List KeyD} : hasK id S = true ↔ ∃ p ∈ S, p.2 = id := by
  unfold hasK
  rw [List.any_eq_true]
  simp
theorem remK_len {id : Int} : ∀ {S : List KeyD}, (S.map (·.2)).Nodup → hasK id S = true → (remK id S).length + 1 = S.length
  | [], _, h => by simp [hasK] at h
  | p :: r, hn, h => by
    rw [List.map_cons, List.nodup_cons] at hn
    by_cases e : p.2 = id
    · have : remK id r = r := List.filter_eq_self.2 fun x hx => by
        have : x.2 ≠ id := fun e2 => hn.1 (by rw [e, ← e2]; exact List.mem_map_of_mem hx)
        simpa using this
      unfold remK at this ⊢
      rw [List.filter_cons_of_neg (by simp [e]), this, List.length_cons]
    · have h2 : hasK id r = true := by
        unfold hasK at h ⊢
        rw [List.any_cons] at h
        simpa [e] using h
      unfold remK
      rw [List.filter_cons_of_pos (by simpa using e), List.length_cons, List.length_cons]
      have := remK_len hn.2 h2
      unfold remK at this
      omega
theorem remK_none {id : Int} {S : List KeyD} (h : hasK id S = false) : remK id S = S := List.filter_eq_self.2 fun x hx => by
  unfold hasK at h
  rw [List.any_eq_false] at h
  simpa using h x hx
theorem QOk.ins {S : List KeyD} (h : QOk S) {x : KeyD} (hx : ∀ p ∈ S, p.2 ≠ x.2) (hm : mayB x.1 = true ∧ mayB x.2 = true) (hl : S.length < 256) : QOk (insK x S) where
  srt := insK_srt h.srt hx
  ids := ((insK_perm x S).map _).nodup_iff.2 (by
    rw [List.map_cons, List.nodup_cons]
    refine ⟨fun hm => ?_, h.ids⟩
    obtain ⟨p, hp, e⟩ := List.mem_map.1 hm
    exact hx p hp e)
  may p hp := by
    rcases List.mem_cons.1 ((insK_perm x S).mem_iff.1 hp) with rfl | hp
    · exact hm
    · exact h.may p hp
  le := by rw [(insK_perm x S).length_eq, List.length_cons]; omega
theorem badK_ok {id at_ : Int} (h : badK id at_ = false) : mayB at_ = true ∧ mayB id = true := by
  unfold badK at h
  cases h1 : mayB id <;> cases h2 : mayB at_ <;> simp_all
theorem QOk.set {S : List KeyD} (h : QOk S) (id at_ : Int) : QOk (setK S id at_) := by
  unfold setK
  split
  · rename_i h0
    unfold setN at h0
    split at h0
    · cases h0
    · rename_i hb
      split at h0
      · cases h0
      · rename_i hf
        refine (h.rem id).ins (fun p hp => (remK_mem hp).2) (badK_ok (by simpa using hb)) ?_
        cases hh : hasK id S with
        | true => have := remK_len h.ids hh; have := h.le; omega
        | false =>
          rw [remK_none hh]
          rw [hh] at hf
          have := h.le
          have : S.length ≠ 256 := by simpa using hf
          omega
  · exact h
theorem QOk.due {S : List KeyD} (h : QOk S) (now : Int) : QOk (dueK S now) := h.filter _
theorem QOk.nil : QOk [] := ⟨List.Pairwise.nil, List.nodup_nil, (fun _ h => by cases h), by simp⟩

/-- Two lists in order with the same members are one. -/
theorem srt_perm : ∀ {S S' : List KeyD}, SrtK S → SrtK S' → S.Perm S' → S = S'
  | [], S', _, _, hp => (List.nil_perm.1 hp).symm
  | x :: r, [], _, _, hp => by cases hp.length_eq
  | x :: r, y :: r', h, h', hp => by
    have h1 := List.pairwise_cons.1 h
    have h2 := List.pairwise_cons.1 h'
    have e : x = y := by
      rcases List.mem_cons.1 (hp.mem_iff.1 List.mem_cons_self) with e | hx
      · exact e
      · rcases List.mem_cons.1 (hp.mem_iff.2 (List.mem_cons_self (a := y))) with e | hy
        · exact e.symm
        · exact (ltK_le (h1.1 y hy)).antisymm (ltK_le (h2.1 x hx))
    subst e
    rw [srt_perm h1.2 h2.2 hp.cons_inv]

/-- A heap's root is the first. -/
theorem HeapN.root0 {L : List EntD} (h : HeapN L L.length) : ∀ k, k < L.length → leK (ky L 0) (ky L k) := by
  intro k
  induction k using Nat.strongRecOn with
  | _ k ih =>
    intro hk
    by_cases h0 : k = 0
    · subst h0; exact leK.refl _
    · exact (ih ((k - 1) / 2) (by omega) (by omega)).trans (h k (by omega) hk)
theorem head_eq {L : List EntD} {x : EntD} {p : KeyD} {S : List KeyD} (hh : HeapN L L.length) (hx : L[0]? = some x) (hp : (L.map (·.2)).Perm (p :: S)) (hs : SrtK (p :: S)) : x.2 = p := by
  have h1 := List.pairwise_cons.1 hs
  have h0 : 0 < L.length := by
    cases L with
    | nil => cases hx
    | cons a r => simp
  have hkx : ky L 0 = x.2 := by
    unfold ky
    rw [List.getD_eq_getElem?_getD, hx]
    rfl
  have hm : x.2 ∈ p :: S := hp.mem_iff.1 (List.mem_map_of_mem (List.mem_of_getElem? hx))
  rcases List.mem_cons.1 hm with e | hm
  · exact e
  · obtain ⟨e, he, hep⟩ := List.mem_map.1 (hp.mem_iff.2 (List.mem_cons_self (a := p) (l := S)))
    obtain ⟨k, hk, hek⟩ := List.mem_iff_getElem.1 he
    have h2 := hh.root0 k hk
    rw [hkx, ky_get hk, hek, hep] at h2
    exact h2.antisymm (ltK_le (h1.1 _ hm))

/-- What is due of a list whose first is not: nothing. -/
theorem due_done {p : KeyD} {S : List KeyD} (hs : SrtK (p :: S)) {now : Int} (h : ¬ p.1 ≤ now) : ∀ x ∈ p :: S, ¬ x.1 ≤ now := by
  have h1 := List.pairwise_cons.1 hs
  intro x hx
  rcases List.mem_cons.1 hx with rfl | hx
  · exact h
  · have h2 := ltK_le (h1.1 x hx)
    unfold leK at h2
    omega
theorem due_split {S P R : List KeyD} {now : Int} (e : S = P ++ R) (hP : ∀ x ∈ P, x.1 ≤ now) (hR : ∀ x ∈ R, ¬ x.1 ≤ now) : dueN S now = P.map (·.2) ∧ dueK S now = R := by
  subst e
  unfold dueN dueK
  rw [List.filter_append, List.filter_append]
  have a1 : P.filter (fun p => decide (p.1 ≤ now)) = P := List.filter_eq_self.2 fun x hx => by simpa using hP x hx
  have a2 : R.filter (fun p => decide (p.1 ≤ now)) = [] := List.filter_eq_nil_iff.2 fun x hx => by simpa using hR x hx
  have a3 : P.filter (fun p => !decide (p.1 ≤ now)) = [] := List.filter_eq_nil_iff.2 fun x hx => by simpa using hP x hx
  have a4 : R.filter (fun p => !decide (p.1 ≤ now)) = R := List.filter_eq_self.2 fun x hx => by simpa using hR x hx
  rw [a1, a2, a3, a4, List.append_nil, List.nil_append]
  exact ⟨rfl, rfl⟩

end Go.Proofs.Ytdlpiaglgdafoaa
