/-
  A region that draws its order: what only reads; then, one behind the other, operations that may do whatever; then again what only reads, or makes memory of its own.
-/
import Derived.Test.YtdlpiaglgdafoaaLater
namespace Go.Proofs.Ytdlpiaglgdafoaa
open Go.RowKit

section
variable {P : Program} {ops : Array Oper} {md : Region.Mode} {C : World → Prop}

/-- Each operation behind number n waits for one between n and itself. -/
def chainAny (md : Region.Mode) (ops : Array Oper) (n : Nat) : Bool :=
  (List.range ops.size).all fun t => decide (t ≤ n) || (List.range t).any fun s => decide (n ≤ s) && Region.waitsFor md ops t s

theorem tail_waits_any {n : Nat} {listed : Array Bool} (hs : Region.sinkB md ops n = true) (hc : chainAny md ops n = true) (inv : HeadInv md ops n listed) :
    ∀ (d i : Nat), n - i = d → i < n → listed.getD i true = false → ∀ t, n ≤ t → t ∉ Region.ready md ops listed := by
  intro d
  induction d using Nat.strongRecOn with
  | _ d ih =>
    intro i hd hi hun t ht hr
    obtain ⟨_, ot, hot, hall⟩ := mem_ready.1 hr
    have htlt : t < ops.size := (Array.getElem?_eq_some_iff.1 hot).1
    by_cases htn : t = n
    · subst htn
      have h1 := List.all_eq_true.1 hs i (List.mem_range.2 hi)
      obtain ⟨j, hj, hj2⟩ := List.any_eq_true.1 h1
      simp only [Bool.and_eq_true, decide_eq_true_eq] at hj2
      obtain ⟨oj, hoj, e, he, hb, hon⟩ := Region.waitsFor_spec hj2.2
      have hjle : j ≤ t := by have := List.mem_range.1 hj; omega
      by_cases hjt : j = t
      · subst hjt
        have : oj = ot := Option.some.inj (hoj.symm.trans hot)
        subst this
        have h2 := hall e he hb
        rw [hon, getD_both hun] at h2
        cases h2
      · cases hl : listed.getD j false with
        | true =>
          have h2 := inv.closed j oj hoj hl e he hb
          rw [hon, getD_both hun] at h2
          cases h2
        | false =>
          have hjs : j < listed.size := by rw [inv.size]; omega
          exact ih (t - j) (by omega) j rfl (by omega) (getD_in hjs hl) t (Nat.le_refl _) hr
    · have h1 := List.all_eq_true.1 hc t (List.mem_range.2 htlt)
      simp only [Bool.or_eq_true, decide_eq_true_eq] at h1
      rcases h1 with h1 | h1
      · omega
      · obtain ⟨s, hs1, hs2⟩ := List.any_eq_true.1 h1
        simp only [Bool.and_eq_true, decide_eq_true_eq] at hs2
        obtain ⟨o', ho', e, he, hb, hon⟩ := Region.waitsFor_spec hs2.2
        have : o' = ot := Option.some.inj (ho'.symm.trans hot)
        subst this
        have h2 := hall e he hb
        have hst := List.mem_range.1 hs1
        rw [hon, getD_both (inv.tail s hs2.1 (by omega))] at h2
        cases h2

theorem wpAnyLQ_first' {n i : Nat} {oi : Oper} {v : Value} {L : Array Bool → Act → Prop} (hi : ops[i]? = some oi) (hsel : ∀ (j : Nat) (o : Oper) cs b, ops[j]? = some o → o.op ≠ .select cs b)
    (hs : Region.sinkB md ops n = true) (hc : chainAny md ops n = true) (hin : i < n)
    (hdone : ∀ listed a, L listed a → ∀ j ∈ Region.ready md ops listed, n ≤ j) :
    ∀ (f : Nat) (listed : Array Bool) (a : Act), HeadInv md ops n listed →
      (∀ j oj, ops[j]? = some oj → j ≠ i → listed.getD j true = false → (∀ e ∈ oj.after, Region.binds md e = true → e.on ≠ i) → oi.apart ops oj = true) →
      i ∈ Region.ready md ops listed → YieldsIn P ops C oi v a →
      wpAnyLQ P md ops C n L f (listed.setIfInBounds i true) (a.put oi.dst v) → wpAnyLQ P md ops C n L (f + 1) listed a := by
  intro f
  induction f with
  | zero =>
    intro listed a inv _ hr hy H
    have hun := (mem_ready.1 hr).1
    refine ⟨fun h => (by rw [h] at hr; cases hr), fun j hj => ?_⟩
    have hjn : j < n := by
      rcases Nat.lt_or_ge j n with h | h
      · exact h
      · exact absurd hj (tail_waits_any hs hc inv _ i rfl hin hun j h)
    refine ⟨hjn, ?_⟩
    by_cases hji : j = i
    · subst hji; exact hy.qOp hi H
    · have := hdone _ _ H j (ready_mono hj hji)
      omega
  | succ f ih =>
    intro listed a inv hfree hr hy H
    have hun := (mem_ready.1 hr).1
    refine ⟨fun h => (by rw [h] at hr; cases hr), fun j hj => ?_⟩
    have hjn : j < n := by
      rcases Nat.lt_or_ge j n with h | h
      · exact h
      · exact absurd hj (tail_waits_any hs hc inv _ i rfl hin hun j h)
    refine ⟨hjn, ?_⟩
    by_cases hji : j = i
    · subst hji; exact hy.qOp hi H
    · have h1 := (H.2 j (ready_mono hj hji)).2
      obtain ⟨hjun, oj, hoj, hall⟩ := mem_ready.1 hj
      have hnot : ∀ e ∈ oj.after, Region.binds md e = true → e.on ≠ i := fun e he hb heq => by
        have h1 := hall e he hb
        rw [heq, getD_both hun] at h1
        cases h1
      have h2 := qOp_put hoj (hfree j oj hoj hji hjun hnot) (fun cs b => hsel i oi cs b hi) (fun cs b => hsel j oj cs b hoj) hy h1
      have hfree' : ∀ k ok, ops[k]? = some ok → k ≠ i → (listed.setIfInBounds j true).getD k true = false →
          (∀ e ∈ ok.after, Region.binds md e = true → e.on ≠ i) → oi.apart ops ok = true := fun k ok hk hki hun hno => by
        refine hfree k ok hk hki ?_ hno
        by_cases hjk : j = k
        · subst hjk; exact hjun
        · rw [getD_set_ne true hjk] at hun; exact hun
      refine qOp_mono (fun a' h3 => ih (listed.setIfInBounds j true) a' (inv.set hj hjn) hfree' (ready_mono hr (Ne.symm hji)) h3.1 ?_) h2
      rw [Array.setIfInBounds_comm _ _ hji]
      exact h3.2

/-- From here on: so many operations each of which is the only one that may come up; then the rest, in the order of the text. -/
def midSeq (md : Region.Mode) (ops : Array Oper) (g : Nat) : Nat → Nat → Array Bool → Bool
  | 0, k, listed => Region.lexFrom md ops g k listed
  | m + 1, k, listed => decide (Region.ready md ops listed = [k]) && midSeq md ops g m (k + 1) (listed.setIfInBounds k true)

def midHead (md : Region.Mode) (ops : Array Oper) (m g : Nat) : Nat → Nat → Array Bool → Bool
  | 0, k, listed => midSeq md ops g m k listed
  | f + 1, k, listed => (Region.ready md ops listed).contains k && Region.free md ops listed k && midHead md ops m g f (k + 1) (listed.setIfInBounds k true)

/-- What is asked behind the operations in the middle: the rest, read. -/
def Mid (P : Program) (ops : Array Oper) (Q : Exit → Act → World → Prop) (rest : List Oper) : Exit → Act → World → Prop
  | .normal, a, w => wpQuiet P ops (fun w' => ∃ d : Later w, w' = d.val) (fun a' => ∀ w', (∃ d : Later w, w' = d.val) → Q .normal a' w') rest a
  | e, a, w => Q e a w

theorem mid_imp {Q : Exit → Act → World → Prop} {rest : List Oper} {Q' : Exit → Act → World → Prop} (h : ∀ a w, Mid P ops Q rest .normal a w → Q' .normal a w) (h2 : ∀ e a w, e ≠ .normal → Q e a w → Q' e a w) (e : Exit) (a : Act) (w : World) (hm : Mid P ops Q rest e a w) : Q' e a w := by
  cases e <;> first | exact h _ _ hm | exact h2 _ _ _ (by simp) hm

theorem wpAny_of_mid {Q : Exit → Act → World → Prop} (hsel : Region.noSelect ops = true) (rest : List Oper) : ∀ (l : List Oper) (k : Nat) (listed : Array Bool) (a : Act) (w : World), (∀ j, j < l.length → l[j]? = ops[k + j]?) →
    (∀ j, rest[j]? = ops[k + l.length + j]?) → midSeq md ops rest.length l.length k listed = true → (LetsOut (Mid P ops Q rest) → LetsOut Q) → wpList P ops (Mid P ops Q rest) l a w → wpAny P md ops Q (l.length + rest.length) listed a w
  | [], k, listed, a, w, _, hrest, hB, _, h => by
    rw [List.length_nil, Nat.zero_add]
    refine wpAny_of_quiet (C := fun w' => ∃ d : Later w, w' = d.val) (Q := fun a' => ∀ w', (∃ d : Later w, w' = d.val) → Q .normal a' w') (fun a' w' hw' h' => h' w' hw') _ _ _ _ ⟨⟨w, Fr.refl _ w⟩, rfl⟩ ?_
    exact wpAnyQ_lex hsel rest k listed a (fun j => by simpa using hrest j) hB h
  | o :: l, k, listed, a, w, hl, hrest, hB, hlet, h => by
    have h0 : ops[k]? = some o := by simpa using (hl 0 (by simp)).symm
    simp only [List.length_cons, midSeq, Bool.and_eq_true, decide_eq_true_eq] at hB
    rw [List.length_cons, show l.length + 1 + rest.length = (l.length + rest.length) + 1 by omega]
    refine ⟨fun h1 => (by rw [hB.1] at h1; cases h1), fun i hi => ?_⟩
    rw [hB.1] at hi
    have hik : i = k := by simpa using hi
    subst hik
    have hnext : ∀ a' w', wpList P ops (Mid P ops Q rest) l a' w' → wpAny P md ops Q (l.length + rest.length) (listed.setIfInBounds i true) a' w' := fun a' w' h' =>
      wpAny_of_mid hsel rest l (i + 1) _ a' w' (fun j hj => by have := hl (j + 1) (by simp; omega); simpa [Nat.add_assoc, Nat.add_comm 1 j] using this)
        (fun j => by have := hrest j; rw [List.length_cons] at this; rw [this]; congr 1; omega) hB.2 hlet h'
    unfold wpOp
    simp only [h0]
    unfold wpList at h
    split
    · rename_i hw
      rw [if_pos hw] at h
      rcases h with h | ⟨h1, h2⟩
      · left
        unfold Oper.wp at h ⊢
        generalize (execOp a.eval o).run P w = res at h ⊢
        cases res with
        | ok nx w' =>
          cases nx with
          | value v => exact hnext _ _ h
          | skip => exact hnext _ _ h
          | defer d => exact hnext _ _ h
          | enter f args =>
            refine Calls.mono (h : Calls P f args w' _) fun e w'' he => ?_
            cases e with
            | returned v => exact hnext _ _ he
            | panicked chain => exact he
            | outgrown => exact hlet he
          | row r args =>
            refine Rows.mono (h : Rows P r args w' _) fun v w'' he => hnext _ _ he
          | _ => exact h
        | halt x w' =>
          cases x <;> exact h
      · exact Or.inr ⟨h1, hlet h2⟩
    · rename_i hw
      rw [if_neg hw] at h
      exact hnext _ _ h
end

section
variable {P : Program} {ops : Array Oper} {md : Region.Mode} {C : World → Prop}

theorem wpAnyLQ_mid {n m g : Nat} {Lq : Act → Prop} (hsel : Region.noSelect ops = true) (hs : Region.sinkB md ops n = true) (hc : chainAny md ops n = true) :
    ∀ (l : List Oper) (k : Nat) (listed : Array Bool) (a : Act), (∀ j, j < l.length → l[j]? = ops[k + j]?) → k + l.length = n → HeadInv md ops n listed →
    midHead md ops (m + 1) g l.length k listed = true → wpQuiet P ops C Lq l a →
    wpAnyLQ P md ops C n (fun listed' a' => midSeq md ops g (m + 1) n listed' = true ∧ Lq a') l.length listed a
  | [], k, listed, a, _, hk, _, hB, h => by
    have : k = n := by simpa using hk
    subst this
    exact ⟨by simpa [midHead] using hB, h⟩
  | o :: l, k, listed, a, hl, hk, inv, hB, h => by
    have h0 : ops[k]? = some o := by simpa using (hl 0 (by simp)).symm
    simp only [List.length_cons, midHead, Bool.and_eq_true] at hB
    obtain ⟨⟨hr, hf⟩, hB'⟩ := hB
    have hkn : k < n := by simp only [List.length_cons] at hk; omega
    have hr' : k ∈ Region.ready md ops listed := by simpa using hr
    have hst : qOp P ops C k (wpQuiet P ops C Lq l) a := by unfold qOp; simp only [h0]; exact h
    obtain ⟨v, hy, hK⟩ := yieldsIn_of_qOp h0 hst
    refine wpAnyLQ_first' h0 (Region.noSelect_spec hsel) hs hc hkn (fun listed' a' hL j hj => ?_) l.length listed a inv (Region.free_spec h0 hf) hr' hy
      (wpAnyLQ_mid hsel hs hc l (k + 1) _ _ (fun j hj => by have := hl (j + 1) (by simp; omega); simpa [Nat.add_assoc, Nat.add_comm 1 j] using this) (by simp only [List.length_cons] at hk; omega) (inv.set hr' hkn) hB' hK)
    have h1 := hL.1
    simp only [midSeq, Bool.and_eq_true, decide_eq_true_eq] at h1
    rw [h1.1] at hj
    have : j = n := by simpa using hj
    omega

def midB (md : Region.Mode) (ops : Array Oper) (n m : Nat) : Bool :=
  Region.noSelect ops && decide (n + (m + 1) ≤ ops.size) && Region.sinkB md ops n && chainAny md ops n && midHead md ops (m + 1) (ops.size - (n + (m + 1))) n 0 (Array.replicate ops.size false)

theorem wp_region_mid {id : Nat} {Q : Exit → Act → World → Prop} {a : Act} {w : World} {l : List Oper} (w0 : World) (n m : Nat) (hm : P.follows .mixedOrders = true) (hB : midB .any l.toArray n m = true) (h0 : Fr (fun _ => False) w0 w)
    (h : wpQuiet P l.toArray (fun w' => ∃ d : Later w0, w' = d.val) (fun a' => ∀ w', (∃ d : Later w0, w' = d.val) → wpList P l.toArray (Mid P l.toArray Q (l.drop (n + (m + 1)))) ((l.drop n).take (m + 1)) a' w') (l.take n) a) : (Code.region id l.toArray true).wp P Q a w := by
  simp only [midB, Bool.and_eq_true, decide_eq_true_eq] at hB
  obtain ⟨⟨⟨⟨hsel, hn⟩, hs⟩, hc⟩, hlex⟩ := hB
  have hn' : n + (m + 1) ≤ l.length := by simpa using hn
  have htl : (l.take n).length = n := by simp; omega
  have hml : ((l.drop n).take (m + 1)).length = m + 1 := by simp; omega
  have hdl : (l.drop (n + (m + 1))).length = l.toArray.size - (n + (m + 1)) := by simp
  have inv0 : HeadInv .any l.toArray n (Array.replicate l.toArray.size false) :=
    ⟨by simp, fun j oj _ hl => (by rw [getD_replicate_false] at hl; cases hl), fun t _ ht => getD_in (by simpa using ht) (getD_replicate_false _ _)⟩
  have H := wpAnyLQ_mid (md := .any) (g := l.toArray.size - (n + (m + 1))) (m := m) hsel hs hc (l.take n) 0 _ a (fun j hj => by
    have hj' : j < n := by rw [htl] at hj; exact hj
    simp [hj']) (by simpa using htl) inv0 (by rw [htl]; exact hlex) h
  refine wp_region_any hm ?_
  have := wpAny_of_headQ (Q' := Q) (g := (m + 1) + (l.toArray.size - (n + (m + 1)))) (fun listed a' w' hw' hL => by
    have := wpAny_of_mid (md := .any) (Q := Q) hsel (l.drop (n + (m + 1))) ((l.drop n).take (m + 1)) n listed a' w'
      (fun j hj => by rw [hml] at hj; simp [List.getElem?_drop, hj])
      (fun j => by rw [hml]; simp [List.getElem?_drop, Nat.add_assoc])
      (by rw [hdl, hml]; exact hL.1) (fun ⟨a, w, h⟩ => ⟨a, w, h⟩) (hL.2 w' hw')
    rwa [hdl, hml] at this) _ _ _ { w with drawn := w.drawn + 1 } ⟨⟨_, h0.drew⟩, rfl⟩ H
  rw [htl, show n + ((m + 1) + (l.toArray.size - (n + (m + 1)))) = l.toArray.size by simp; omega] at this
  exact this
end

end Go.Proofs.Ytdlpiaglgdafoaa
