/-
  A range over a map under way: what has come, what is still to come, as lists of keys and values.
-/
import Derived.Test.YtcefadbnmpjeiaaMem
namespace Go.Proofs.Ytcefadbnmpjeiaa
open Go.RowKit Go.Maps
open Go.MapKept (heap_set stamped_iff)
open Go.WideElems (Fit rd rg pl rd_key rd_val rg_of)
open Go.ChangeMaps (notKey putKey delKey setBlock)

theorem eq_filter_of_sublist {α : Type} {p : α → Bool} : ∀ {l' l : List α}, l'.Sublist l → l.Nodup → (∀ x, x ∈ l' ↔ (x ∈ l ∧ p x = true)) → l' = l.filter p := by
  intro l' l h
  induction h with
  | slnil => intro _ _; rfl
  | @cons l1 l2 a hs ih =>
    intro hn hm
    obtain ⟨ha, hn2⟩ := List.nodup_cons.1 hn
    have hpa : p a = false := by
      cases hp : p a
      · rfl
      · exact absurd (hs.subset ((hm a).2 ⟨List.mem_cons_self, hp⟩)) ha
    rw [List.filter_cons_of_neg (by simp [hpa])]
    refine ih hn2 fun x => ⟨fun hx => ⟨hs.subset hx, ((hm x).1 hx).2⟩, fun ⟨hx, hp⟩ => (hm x).2 ⟨List.mem_cons_of_mem _ hx, hp⟩⟩
  | @cons_cons l1 l2 a hs ih =>
    intro hn hm
    obtain ⟨ha, hn2⟩ := List.nodup_cons.1 hn
    have hpa : p a = true := ((hm a).1 List.mem_cons_self).2
    rw [List.filter_cons_of_pos hpa]
    refine congrArg _ (ih hn2 fun x => ⟨fun hx => ⟨hs.subset hx, ((hm x).1 (List.mem_cons_of_mem _ hx)).2⟩, fun ⟨hx, hp⟩ => ?_⟩)
    rcases List.mem_cons.1 ((hm x).2 ⟨List.mem_cons_of_mem _ hx, hp⟩) with rfl | h
    · exact absurd hx ha
    · exact h

theorem perm_cons_filter {l : List MapEntry} (hn : (l.map (·.born)).Nodup) {e : MapEntry} (he : e ∈ l) : l.Perm (e :: l.filter (fun x => x.born != e.born)) := by
  induction l with
  | nil => cases he
  | cons a r ih =>
    simp only [List.map_cons, List.nodup_cons, List.mem_map, not_exists, not_and] at hn
    by_cases ha : a.born = e.born
    · have hae : a = e := by
        rcases List.mem_cons.1 he with h | h
        · exact h.symm
        · exact absurd ha.symm (hn.1 e h)
      subst hae
      rw [List.filter_cons_of_neg (by simp)]
      rw [List.filter_eq_self.2 (fun x hx => by simpa using hn.1 x hx)]
    · rw [List.filter_cons_of_pos (by simpa using ha)]
      have he' : e ∈ r := by
        rcases List.mem_cons.1 he with h | h
        · exact absurd (by rw [h]) ha
        · exact h
      exact ((ih hn.2 he').cons a).trans (List.Perm.swap _ _ _)

/-- The range over the map in block b, whose iterator lies in block r: 'done' has come (and is still there), 'todo' is to come. -/
def RangeL (P : Program) (k : TypeId) (w : World) (b r : Nat) (done todo : List (Lit × Value)) : Prop :=
  ∃ es clock since seen c0, w.heap[b]? = some (.map es clock) ∧ Fit P k rawR es clock ∧ w.heap[r]? = some (.mapIter (some b) since seen c0) ∧
    (∀ x ∈ es.toList, x.born < since) ∧ since ≤ c0 ∧ since ≤ clock ∧
    ((es.toList.filter (fun x => seen.contains x.born)).map (rg P k rawR)).Perm (done.map heldP) ∧
    ((es.toList.filter (fun x => !seen.contains x.born)).map (rg P k rawR)).Perm (todo.map heldP)

section
variable {P : Program} {k : TypeId} {w w' : World} {b r : Nat} {L done todo : List (Lit × Value)}

theorem RangeL.lt (h : RangeL P k w b r done todo) : b < w.heap.size ∧ r < w.heap.size := by
  obtain ⟨es, clock, since, seen, c0, h1, _, h2, _⟩ := h
  exact ⟨lt_of_heap h1, lt_of_heap h2⟩
theorem RangeL.ne (h : RangeL P k w b r done todo) : r ≠ b := by
  obtain ⟨es, clock, since, seen, c0, h1, _, h2, _⟩ := h
  rintro rfl
  rw [h1] at h2
  cases h2
theorem RangeL.left_eq (h : RangeL P k w b r done todo) : w.rangeLeft b r = todo.length := by
  obtain ⟨es, clock, since, seen, c0, h1, _, h2, _, _, _, _, h3⟩ := h
  have := h3.length_eq
  simp only [List.length_map] at this
  rw [← this]
  simp [World.rangeLeft, h1, h2, leftOf, ← Array.length_toList]
theorem RangeL.heap (h : RangeL P k w b r done todo) (h1 : w'.heap[b]? = w.heap[b]?) (h2 : w'.heap[r]? = w.heap[r]?) : RangeL P k w' b r done todo := by
  obtain ⟨es, clock, since, seen, c0, e1, F, e2, rest⟩ := h
  exact ⟨es, clock, since, seen, c0, h1.trans e1, F, h2.trans e2, rest⟩
theorem RangeL.fr {S : Nat → Prop} (h : RangeL P k w b r done todo) (hf : Fr S w w') (hb : ¬ S b) (hr : ¬ S r) : RangeL P k w' b r done todo :=
  h.heap (hf.block b h.lt.1 hb) (hf.block r h.lt.2 hr)
theorem RangeL.alloc (h : RangeL P k w b r done todo) (o : Obj) : RangeL P k (w.alloc o) b r done todo :=
  h.heap (Below.heap_alloc w o b h.lt.1) (Below.heap_alloc w o r h.lt.2)
theorem RangeL.no_cells (h : RangeL P k w b r done todo) {g : Nat} {t : TypeId} {cs : Array Value} {f : Nat × Nat} (hg : w.heap[g]? = some (.cells cs t f)) : b ≠ g ∧ r ≠ g := by
  obtain ⟨es, clock, since, seen, c0, h1, _, h2, _⟩ := h
  refine ⟨?_, ?_⟩
  · rintro rfl; rw [h1] at hg; cases hg
  · rintro rfl; rw [h2] at hg; cases hg
theorem RangeL.setCell (h : RangeL P k w b r done todo) {a : Addr} (h1 : b ≠ a.block) (h2 : r ≠ a.block) (u : Value) : RangeL P k (w.setCell a u) b r done todo :=
  h.heap (Below.heap_setCell w a u b h1) (Below.heap_setCell w a u r h2)
theorem RangeL.map (h : RangeL P k w b r done todo) : MapL P k w b (done ++ todo) := by
  obtain ⟨es, clock, since, seen, c0, h1, F, _, _, _, _, h2, h3⟩ := h
  refine ⟨es, clock, h1, F, ?_⟩
  rw [List.map_append]
  refine List.Perm.trans ?_ (h2.append h3)
  rw [← List.map_append]
  exact ((List.filter_append_perm (fun x : MapEntry => seen.contains x.born) es.toList).symm).map _

theorem RangeL.start (h : MapL P k w b L) {t e : TypeId} (ht : P.underlying t = some (.map k e)) :
    ∃ w', (Instr.range t (.map (some b))).run P w = .ok (.pointer (some ⟨w.heap.size, 0, none⟩)) w' ∧ RangeL P k w' b w.heap.size [] L ∧ Fr (fun _ => False) w w' := by
  have hlt := h.lt
  obtain ⟨es, clock, hb, F, hp⟩ := h
  refine ⟨_, run_range_map w t k e b es clock ht hb, ⟨es, clock, clock, #[], clock, ((MapKept.heap_alloc w _).2 b hlt).trans hb, F, (MapKept.heap_alloc w _).1, F.stamped.1, Nat.le_refl _, Nat.le_refl _, ?_, ?_⟩, (Fr.refl _ w).alloc _⟩
  · simp
  · rw [List.filter_eq_self.2 (by simp)]; exact hp

theorem RangeL.next (h : RangeL P k w b r done todo) (ty : TypeId) :
    (todo = [] ∧ (Instr.next (.pointer (some ⟨r, 0, none⟩)) false ty).run P w = .ok (.tuple #[.bool false]) w) ∨
    ∃ key v kl todo' w', keyOf P k key = some kl ∧ todo.Perm ((kl, v) :: todo') ∧ (Instr.next (.pointer (some ⟨r, 0, none⟩)) false ty).run P w = .ok (.tuple #[.bool true, key, v]) w' ∧
      RangeL P k w' b r ((kl, v) :: done) todo' ∧ Fr (fun i => i = r) w w' ∧ (Instr.entry (.pointer (some ⟨r, 0, none⟩))).run P w' = .ok (.tuple #[key, v]) w' := by
  have hne := h.ne
  obtain ⟨es, clock, since, seen, c0, hb, F, hr, hold, hsc, hsk, hd, ht⟩ := h
  rcases run_next_at (P := P) w ty r b since c0 seen es clock hr hb hold hsc with ⟨h0, hrun⟩ | ⟨e, he, w1, hal, hrun⟩
  · refine Or.inl ⟨?_, hrun⟩
    have : (es.toList.filter (fun x => !seen.contains x.born)) = [] := by
      have h1 : (leftOf es seen).toList.length = 0 := by simpa using h0
      have h2 : (leftOf es seen).toList = es.toList.filter (fun x => !seen.contains x.born) := by simp [leftOf]
      rw [h2] at h1
      exact List.eq_nil_of_length_eq_zero h1
    rw [this] at ht
    simpa using ht.length_eq.symm
  · obtain ⟨hem, hes⟩ := mem_left he
    obtain ⟨kl, hkl⟩ := F.keys e hem
    have hrg := rg_raw F hem hkl
    have hst := (stamped_iff es clock).1 F.stamped
    have hr1 : w1.heap[r]? = some (.mapIter (some b) since seen c0) := by rcases hal with rfl | rfl <;> exact hr
    have hb1 : w1.heap[b]? = some (.map es clock) := by rcases hal with rfl | rfl <;> exact hb
    have hset := heap_set (o' := .mapIter (some b) since (seen.push e.born) clock) hr1
    have hb' : (setBlock w1 r (.mapIter (some b) since (seen.push e.born) clock)).heap[b]? = some (.map es clock) := (hset.2 b (fun e1 => hne e1.symm)).trans hb1
    have p0 := perm_cons_filter hst.2.1 hem
    -- the entries that have come: e besides
    have pd : (es.toList.filter (fun x => (seen.push e.born).contains x.born)).Perm (e :: es.toList.filter (fun x => seen.contains x.born)) := by
      refine (p0.filter _).trans ?_
      rw [List.filter_cons_of_pos (by simp)]
      refine List.Perm.cons _ ?_
      have q := (p0.filter (fun x => seen.contains x.born))
      rw [List.filter_cons_of_neg (by simpa using hes)] at q
      refine List.Perm.trans (List.Perm.of_eq ?_) q.symm
      rw [List.filter_filter, List.filter_filter]
      refine List.filter_congr fun x _ => ?_
      rw [contains_push]
      cases hx : x.born == e.born <;> simp_all [bne]
    have pt : (es.toList.filter (fun x => !seen.contains x.born)).Perm (e :: es.toList.filter (fun x => !(seen.push e.born).contains x.born)) := by
      refine (p0.filter _).trans ?_
      rw [List.filter_cons_of_pos (by simpa using hes)]
      refine List.Perm.cons _ (List.Perm.of_eq ?_)
      rw [List.filter_filter]
      refine List.filter_congr fun x _ => ?_
      rw [contains_push]
      cases hx : x.born == e.born <;> simp_all [bne]
    have hm : heldP (kl, e.val) ∈ todo.map heldP := by
      refine ht.mem_iff.1 (List.mem_map.2 ⟨e, ?_, hrg⟩)
      exact List.mem_filter.2 ⟨hem, by simpa using hes⟩
    have hm' : (kl, e.val) ∈ todo := by
      obtain ⟨q, hq, hqe⟩ := List.mem_map.1 hm
      rw [← heldP_inj hqe]
      exact hq
    obtain ⟨l1, l2, hl⟩ := List.append_of_mem hm'
    have hperm : todo.Perm ((kl, e.val) :: (l1 ++ l2)) := by rw [hl]; exact List.perm_middle
    refine Or.inr ⟨e.key, e.val, kl, l1 ++ l2, _, hkl, hperm, hrun,
      ⟨es, clock, since, seen.push e.born, clock, hb', F, hset.1, hold, hsk, hsk, ?_, ?_⟩, ?_, run_entry_at _ r b since seen es clock e hset.1 hb' hem hst.2.1⟩
    · refine (pd.map _).trans ?_
      rw [List.map_cons, List.map_cons, hrg]
      exact hd.cons _
    · have q := ((pt.map (rg P k rawR)).symm.trans ht).trans (hperm.map heldP)
      rw [List.map_cons, List.map_cons, hrg] at q
      exact q.cons_inv
    · rcases hal with rfl | rfl <;> exact ⟨rfl, rfl, rfl, by simp [setBlock], fun i _ hi => hset.2 i (fun e1 => hi e1)⟩

/-- 'delete(m, k)' of the entry that has just come. -/
theorem RangeL.drop {kl : Lit} {v : Value} (h : RangeL P k w b r ((kl, v) :: done) todo) (K : Keyed P k) {t e : TypeId} (ht : P.underlying t = some (.map k e)) {key : Value} (hkey : keyOf P k key = some kl) (ty : TypeId) :
    ∃ w', (Builtin.delete_ #[t, k] ty #[.map (some b), key]).run P w = .ok (.tuple #[]) w' ∧ RangeL P k w' b r done todo ∧ Fr (fun i => i = b) w w' := by
  have hne := h.ne
  obtain ⟨es, clock, since, seen, c0, hb, F, hr, hold, hsc, hsk, hd, htd⟩ := h
  obtain ⟨es', hrun, F', _, _, hsub, hwho⟩ := fit_drop_who (ty := ty) K ht hb F hkey
  have hst := (stamped_iff es clock).1 F.stamped
  have hm : heldP (kl, v) ∈ (es.toList.filter (fun x => seen.contains x.born)).map (rg P k rawR) := hd.mem_iff.2 (by simp)
  obtain ⟨e0, he0, hrg0⟩ := List.mem_map.1 hm
  obtain ⟨hem, hes⟩ := List.mem_filter.1 he0
  obtain ⟨l0, hl0⟩ := F.keys e0 hem
  rw [rg_raw F hem hl0] at hrg0
  have hk0 := heldP_inj hrg0
  simp only [Prod.mk.injEq] at hk0
  obtain ⟨rfl, rfl⟩ := hk0
  have hkey0 : e0.key = key := K.inj hl0 hkey
  have hnod : es.toList.Nodup := (List.pairwise_map.1 hst.2.1).imp (fun h e => h (by rw [e]))
  have hes' : es'.toList = es.toList.filter (fun x => x.born != e0.born) := by
    refine eq_filter_of_sublist hsub hnod fun x => ?_
    rw [hwho x]
    refine and_congr_right fun hx => ?_
    constructor
    · intro h1
      simp only [bne_iff_ne, ne_eq]
      intro h2
      exact h1 (by rw [born_inj hst.2.1 hx hem h2, hkey0])
    · intro h1 h2
      simp only [bne_iff_ne, ne_eq] at h1
      exact h1 (by rw [entry_eq_of_key hst.2.2 hx hem (h2.trans hkey0.symm)])
  have hset := heap_set (o' := .map es' clock) hb
  have p0 := perm_cons_filter hst.2.1 hem
  refine ⟨_, hrun, ⟨es', clock, since, seen, c0, hset.1, F', (hset.2 r hne).trans hr, fun x hx => hold x (hsub.subset hx), hsc, hsk, ?_, ?_⟩, ⟨rfl, rfl, rfl, by simp [setBlock], fun i _ hi => hset.2 i hi⟩⟩
  · have q := ((p0.filter (fun x => seen.contains x.born)).map (rg P k rawR)).symm.trans hd
    rw [List.filter_cons_of_pos (by simpa using hes), List.map_cons, List.map_cons, rg_raw F hem hl0] at q
    rw [hes']
    exact q.cons_inv
  · have q := ((p0.filter (fun x => !seen.contains x.born)).map (rg P k rawR)).symm.trans htd
    rw [List.filter_cons_of_neg (by simpa using hes)] at q
    rw [hes']
    exact q
end

section
variable {P : Program} {k : TypeId} {w : World} {b r : Nat} {L done todo : List (Lit × Value)} {ops : Array Oper} {rest : List Oper} {o : Oper} {a : Act} {Q : Exit → Act → World → Prop}

theorem wpList_rangeL (hg : o.guard = none) (m : Operand) (t : TypeId) (hop : o.op = Op.range t m) (e : TypeId) (ht : P.underlying t = some (.map k e))
    (hm : a.eval m = .map (some b)) (h : MapL P k w b L)
    (hK : ∀ w', RangeL P k w' b w.heap.size [] L → Fr (fun _ => False) w w' → wpList P ops Q rest (a.put o.dst (.pointer (some ⟨w.heap.size, 0, none⟩))) w') : wpList P ops Q (o :: rest) a w := by
  refine wpList_plain hg fun K' hK' => ?_
  obtain ⟨w', hrun, r1, r2⟩ := RangeL.start h ht
  unfold Oper.wp
  simp [execOp, hop, hm, hrun, Result.andThen]
  exact hK' _ _ (hK w' r1 r2)

theorem wpList_nextL (hg : o.guard = none) (it : Operand) (hop : o.op = Op.next it false)
    (hit : a.eval it = .pointer (some ⟨r, 0, none⟩)) (h : RangeL P k w b r done todo)
    (hDone : todo = [] → wpList P ops Q rest (a.put o.dst (.tuple #[.bool false])) w)
    (hMore : ∀ key v kl todo' w', keyOf P k key = some kl → todo.Perm ((kl, v) :: todo') → RangeL P k w' b r ((kl, v) :: done) todo' → Fr (fun i => i = r) w w' →
      (Instr.entry (.pointer (some ⟨r, 0, none⟩))).run P w' = .ok (.tuple #[key, v]) w' → wpList P ops Q rest (a.put o.dst (.tuple #[.bool true, key, v])) w') : wpList P ops Q (o :: rest) a w := by
  refine wpList_plain hg fun K' hK' => ?_
  unfold Oper.wp
  rcases h.next o.type with ⟨h0, hrun⟩ | ⟨key, v, kl, todo', w', hkey, hp, hrun, hrg, hfr, hen⟩
  · simp [execOp, hop, hit, hrun, Result.andThen]
    exact hK' _ _ (hDone h0)
  · simp [execOp, hop, hit, hrun, Result.andThen]
    exact hK' _ _ (hMore key v kl todo' w' hkey hp hrg hfr hen)

theorem wpList_dropL {kl : Lit} {v : Value} (hg : o.guard = none) (m x : Operand) (t : TypeId) (hop : o.op = Op.call { callee := Callee.builtin Builtin.delete, args := #[m, x], argTypes := #[t, k] })
    (e : TypeId) (K : Keyed P k) (ht : P.underlying t = some (.map k e)) (hm : a.eval m = .map (some b)) (h : RangeL P k w b r ((kl, v) :: done) todo) (key : Value) (hx : a.eval x = key) (hkey : keyOf P k key = some kl)
    (hK : ∀ w', RangeL P k w' b r done todo → Fr (fun i => i = b) w w' → wpList P ops Q rest (a.put o.dst (.tuple #[])) w') : wpList P ops Q (o :: rest) a w := by
  refine wpList_plain hg fun K' hK' => ?_
  obtain ⟨w', hrun, r1, r2⟩ := h.drop K ht hkey o.type
  unfold Oper.wp
  simp [execOp, hop, resolve, invoke, builtin, hm, hx, hrun, Result.andThen]
  exact hK' _ _ (hK w' r1 r2)
end

end Go.Proofs.Ytcefadbnmpjeiaa
