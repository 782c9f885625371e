/-
  Plain laws of the table as a list: no program in sight.
-/
import Derived.Test.YtomoomopodihhaaPs
namespace Go.Proofs.Ytomoomopodihhaa
open Go.RowKit Go.Maps

def KOk (K : List (TaskD × Int)) (last : Int) : Prop := K.Pairwise (fun a b => a.1.pid < b.1.pid) ∧ (∀ p ∈ K, 1 ≤ p.1.pid ∧ p.1.pid ≤ last ∧ p.1.ns.length ≤ 100000) ∧ 0 ≤ last ∧ K.length ≤ 256

theorem PT.ok {w : World} {t : Nat} {K : List (TaskD × Int)} {last : Int} {X : Nat → Prop} (h : PT w t K last X) : KOk K last := by
  obtain ⟨m, M, h1, rfl, rfl⟩ := h
  refine ⟨List.pairwise_map.2 (h1.srt.imp fun h => h), fun p hp => ?_, h1.lo, by rw [List.length_map]; exact h1.le⟩
  obtain ⟨e, he, rfl⟩ := List.mem_map.1 hp
  exact ⟨(h1.rng e he).1, (h1.rng e he).2, h1.nl e he⟩
theorem DSt.ok {w : World} {t k n : Nat} {B : Nat → Prop} {K : List (TaskD × Int)} {last : Int} (h : DSt w t k n B K last) : KOk K last := by
  obtain ⟨X, Y, h1, _⟩ := h
  exact h1.ok

section
variable {K : List (TaskD × Int)} {last : Int} {a b p q : TaskD × Int} {id : Int} {o : OpP}

theorem KOk.uniq (h : KOk K last) (ha : a ∈ K) (hb : b ∈ K) (e : a.1.pid = b.1.pid) : a = b := by
  obtain ⟨i, hi, rfl⟩ := List.getElem_of_mem ha
  obtain ⟨j, hj, rfl⟩ := List.getElem_of_mem hb
  rcases Nat.lt_trichotomy i j with h1 | rfl | h1
  · have := (List.pairwise_iff_getElem.1 h.1) i j hi hj h1
    omega
  · rfl
  · have := (List.pairwise_iff_getElem.1 h.1) j i hj hi h1
    omega
theorem findP_mem (h : findP K id = some p) : p ∈ K ∧ p.1.pid = id := by
  unfold findP at h
  exact ⟨List.mem_of_find?_eq_some h, by simpa using List.find?_some h⟩
theorem KOk.find (h : KOk K last) (ha : a ∈ K) : findP K a.1.pid = some a := by
  cases hf : findP K a.1.pid with
  | none =>
    unfold findP at hf
    have := List.find?_eq_none.1 hf a ha
    simp at this
  | some p =>
    obtain ⟨h1, h2⟩ := findP_mem hf
    rw [h.uniq h1 ha h2]
theorem KOk.sig (h : KOk K last) (ha : a ∈ K) : sigP K a.1.pid = a.2 := by
  unfold sigP
  rw [h.find ha]
  rfl

/-- What a call may make of a task. -/
def Chg (o : OpP) (p q : TaskD × Int) : Prop :=
  q = p ∨ (o.do_ = 1 ∧ p.1.pid = o.pid ∧ p.1.state = 0 ∧ q = ({ p.1 with state := 1 }, p.2)) ∨ (o.do_ = 2 ∧ p.1.state ≠ 2 ∧ (o.n = 15 ∨ o.n = 9) ∧ q = sgnF o.n p) ∨ (o.do_ = 3 ∧ p.1.state = 1 ∧ q = ({ p.1 with state := 2, code := o.n }, p.2))

theorem mem_updK {f : TaskD × Int → TaskD × Int} (h : q ∈ updK K id f) : ∃ p ∈ K, (p.1.pid = id ∧ q = f p) ∨ q = p := by
  unfold updK at h
  obtain ⟨p, hp, rfl⟩ := List.mem_map.1 h
  by_cases hc : (p.1.pid == id) = true
  · rw [if_pos hc]
    exact ⟨p, hp, Or.inl ⟨by simpa using hc, rfl⟩⟩
  · rw [if_neg hc]
    exact ⟨p, hp, Or.inr rfl⟩

theorem does_chg (h : KOk K last) (hq : q ∈ doesK K last o) : (q = spnT last o.x ∧ doesL K last o = last + 1 ∧ o.do_ = 0) ∨ ∃ p ∈ K, Chg o p q := by
  unfold doesK at hq
  split at hq
  · rename_i h0
    unfold spnK at hq
    split at hq
    · rename_i h1
      rcases List.mem_append.1 hq with hq | hq
      · exact Or.inr ⟨q, hq, Or.inl rfl⟩
      · rw [List.mem_singleton] at hq
        refine Or.inl ⟨hq, ?_, h0⟩
        unfold doesL spnL
        rw [if_pos h0, if_pos h1]
    · exact Or.inr ⟨q, hq, Or.inl rfl⟩
  · split at hq
    · rename_i _ h0
      unfold relK at hq
      split at hq
      · rename_i h1
        obtain ⟨p, hp, ⟨e1, e2⟩ | e2⟩ := mem_updK hq
        · unfold relN at h1
          rw [← e1, h.find hp] at h1
          refine Or.inr ⟨p, hp, Or.inr (Or.inl ⟨h0, e1, ?_, e2⟩)⟩
          by_cases hs : p.1.state = 0
          · exact hs
          · simp [hs] at h1
        · exact Or.inr ⟨p, hp, Or.inl e2⟩
      · exact Or.inr ⟨q, hq, Or.inl rfl⟩
    · split at hq
      · rename_i _ _ h0
        unfold sgnK at hq
        split at hq
        · rename_i h1
          obtain ⟨p, hp, ⟨e1, e2⟩ | e2⟩ := mem_updK hq
          · unfold sgnN at h1
            have h15 : (o.n != 15 && o.n != 9) = false := by
              cases hb : (o.n != 15 && o.n != 9)
              · rfl
              · rw [hb] at h1; simp at h1
            rw [h15, ← e1, h.find hp] at h1
            refine Or.inr ⟨p, hp, Or.inr (Or.inr (Or.inl ⟨h0, ?_, sgn_two h15, e2⟩))⟩
            intro hs
            simp [hs] at h1
          · exact Or.inr ⟨p, hp, Or.inl e2⟩
        · exact Or.inr ⟨q, hq, Or.inl rfl⟩
      · split at hq
        · rename_i _ _ _ h0
          unfold extK at hq
          split at hq
          · rename_i h1
            obtain ⟨p, hp, ⟨e1, e2⟩ | e2⟩ := mem_updK hq
            · unfold extN at h1
              split at h1
              · cases h1
              · rw [← e1, h.find hp] at h1
                refine Or.inr ⟨p, hp, Or.inr (Or.inr (Or.inr ⟨h0, ?_, e2⟩))⟩
                by_cases hs : p.1.state = 1
                · exact hs
                · simp [hs] at h1
            · exact Or.inr ⟨p, hp, Or.inl e2⟩
          · exact Or.inr ⟨q, hq, Or.inl rfl⟩
        · split at hq
          · unfold reapK at hq
            split at hq
            · exact Or.inr ⟨q, (List.mem_filter.1 hq).1, Or.inl rfl⟩
            · exact Or.inr ⟨q, hq, Or.inl rfl⟩
          · exact Or.inr ⟨q, hq, Or.inl rfl⟩

theorem doesL_le : last ≤ doesL K last o ∧ doesL K last o ≤ last + 1 := by
  unfold doesL
  split
  · unfold spnL
    split <;> omega
  · omega

theorem Chg.pid (h : Chg o p q) : q.1.pid = p.1.pid := by
  rcases h with rfl | ⟨_, _, _, rfl⟩ | ⟨_, _, _, rfl⟩ | ⟨_, _, rfl⟩
  · rfl
  · rfl
  · unfold sgnF; split <;> rfl
  · rfl

/-! ### Held -/
def HeldI (K : List (TaskD × Int)) (f : Nat → Bool) : Prop := ∀ p ∈ K, f p.1.pid.toNat = false → p.1.state ≠ 1 ∧ (p.1.state = 2 → p.1.code = 137)
def relF (f : Nat → Bool) (o : OpP) (i : Nat) : Bool := f i || (decide (o.do_ = 1 ∧ 0 ≤ o.pid ∧ o.pid ≤ 60) && (i == o.pid.toNat))

theorem held_step {f : Nat → Bool} (h : KOk K last) (hI : HeldI K f) (hl : last ≤ 60) : HeldI (doesK K last o) (relF f o) := by
  intro q hq hf
  rcases does_chg h hq with ⟨rfl, _, _⟩ | ⟨p, hp, hc⟩
  · exact ⟨by unfold spnT; simp, fun h2 => by unfold spnT at h2; simp at h2⟩
  · have hpid := hc.pid
    rw [hpid] at hf
    unfold relF at hf
    rw [Bool.or_eq_false_iff] at hf
    obtain ⟨i1, i2⟩ := hI p hp hf.1
    have hr := h.2.1 p hp
    rcases hc with rfl | ⟨h1, h2, _, rfl⟩ | ⟨_, h2, _, rfl⟩ | ⟨_, h2, _⟩
    · exact ⟨i1, i2⟩
    · exfalso
      have h3 := hf.2
      rw [h2] at h3 hr
      have hd : decide (o.do_ = 1 ∧ 0 ≤ o.pid ∧ o.pid ≤ 60) = true := decide_eq_true ⟨h1, by omega, by omega⟩
      rw [hd] at h3
      simp at h3
    · unfold sgnF
      split
      · exact ⟨by simp, fun _ => rfl⟩
      · exact ⟨i1, i2⟩
    · exact absurd h2 i1

/-! ### Signals -/
structure SigR (p q : TaskD × Int) : Prop where
  nine : p.2 = 9 → q.2 = 9
  term : p.2 = 15 → q.2 ≠ 0
  rise : p.1.state ≤ q.1.state
  gone : p.1.state = 2 → q.1.code = p.1.code ∧ q.2 = p.2

theorem sig_step (h : KOk K last) (hp : p ∈ K) (hq : q ∈ doesK K last o) (e : q.1.pid = p.1.pid) : SigR p q := by
  rcases does_chg h hq with ⟨rfl, _, _⟩ | ⟨p', hp', hc⟩
  · have := (h.2.1 p hp).2.1
    have h2 : (spnT last o.x).1.pid = last + 1 := rfl
    omega
  · have hpp : p' = p := h.uniq hp' hp (by rw [← hc.pid]; exact e)
    subst hpp
    rcases hc with rfl | ⟨h1, h2, h3, rfl⟩ | ⟨_, h2, h3, rfl⟩ | ⟨_, h2, rfl⟩
    · exact ⟨fun h => h, fun h => by rw [h]; decide, Int.le_refl _, fun _ => ⟨rfl, rfl⟩⟩
    · exact ⟨fun h => h, fun h => by show p'.2 ≠ 0; rw [h]; decide, by show p'.1.state ≤ 1; omega, fun h => by omega⟩
    · refine ⟨fun h => ?_, fun h => ?_, ?_, fun h => absurd h h2⟩
      · unfold sgnF
        simp [h]
      · unfold sgnF
        simp only [h]
        rcases h3 with h3 | h3 <;> rw [h3] <;> decide
      · unfold sgnF
        by_cases hb : (p'.1.state == 0 && o.n == 9) = true
        · rw [if_pos hb]
          have : p'.1.state = 0 := by
            rw [Bool.and_eq_true] at hb
            simpa using hb.1
          show p'.1.state ≤ 2
          omega
        · rw [if_neg hb]
          exact Int.le_refl _
    · exact ⟨fun h => h, fun h => by show p'.2 ≠ 0; rw [h]; decide, by show p'.1.state ≤ 2; omega, fun h => by omega⟩

/-! ### Pids -/
def AllI (K : List (TaskD × Int)) (last : Int) (T : List TaskD) : Prop := (T.length : Int) = last ∧ ∀ p ∈ K, ∃ x, T[(p.1.pid - 1).toNat]? = some x ∧ p.1 = { x.abs with pid := p.1.pid, state := p.1.state, code := p.1.code }

theorem Chg.task (h : Chg o p q) : q.1 = { p.1 with state := q.1.state, code := q.1.code } := by
  rcases h with rfl | ⟨_, _, _, rfl⟩ | ⟨_, _, _, rfl⟩ | ⟨_, _, rfl⟩
  · rfl
  · rfl
  · unfold sgnF; split <;> rfl
  · rfl

theorem all_step {T : List TaskD} (h : KOk K last) (hI : AllI K last T) (ho : o.do_ ≠ 0) : AllI (doesK K last o) last T := by
  refine ⟨hI.1, fun q hq => ?_⟩
  rcases does_chg h hq with ⟨_, _, h0⟩ | ⟨p, hp, hc⟩
  · exact absurd h0 ho
  · obtain ⟨x, h1, h2⟩ := hI.2 p hp
    refine ⟨x, by rw [hc.pid]; exact h1, ?_⟩
    have h3 := hc.task
    have h4 := hc.pid
    obtain ⟨⟨q0, q1, q2, q3, q4, q5, q6, q7, q8⟩, q9⟩ := q
    obtain ⟨⟨p0, p1, p2, p3, p4, p5, p6, p7, p8⟩, p9⟩ := p
    simp only [TaskD.mk.injEq] at h2 h3 ⊢
    simp_all

theorem all_spawn {T : List TaskD} (h : KOk K last) (hI : AllI K last T) (x : TaskD) (hr : (spnN K last x).2 = 0) : AllI (spnK K last x) (last + 1) (T ++ [x]) := by
  refine ⟨by rw [List.length_append, List.length_singleton]; have := hI.1; omega, fun q hq => ?_⟩
  unfold spnK at hq
  rw [if_pos hr] at hq
  have h1 := hI.1
  rcases List.mem_append.1 hq with hq | hq
  · obtain ⟨y, h2, h3⟩ := hI.2 q hq
    have h4 := h.2.1 q hq
    refine ⟨y, ?_, h3⟩
    rw [List.getElem?_append_left (by omega)]
    exact h2
  · rw [List.mem_singleton] at hq
    subst hq
    refine ⟨x, ?_, rfl⟩
    have e : ((spnT last x).1.pid - 1).toNat = T.length := by
      show (last + 1 - 1).toNat = _
      omega
    rw [e, List.getElem?_append_right (Nat.le_refl _)]
    simp
end

end Go.Proofs.Ytomoomopodihhaa
