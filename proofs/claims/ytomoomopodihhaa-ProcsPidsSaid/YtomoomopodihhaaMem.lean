/-
  Words for memory, of no program: what a call may have turned; a map's block as a list of keys and values.
-/
import Derived.Test.YtomoomopodihhaaRows
import Derived.WalkKit
import Derived.WalkSpells
import Derived.WalkLawsBesides
import Derived.Maps.OwnSet
import Derived.Maps.RangeWalk
import Derived.Maps.Ext
import Derived.Lib.Hide
namespace Go.Proofs.Ytomoomopodihhaa
open Go.RowKit Go.Maps
open Go.WideElems (Fit rd rg pl rd_key rd_val rg_of)
open Go.ChangeMaps (notKey putKey delKey setBlock)

/-! ### what may have turned -/

/-- Of the blocks that lay in w only those of S may have turned in w'. -/
structure Fr (S : Nat → Prop) (w w' : World) : Prop where
  os : w'.os = w.os
  tape : w'.tape = w.tape
  output : w'.output = w.output
  size : w.heap.size ≤ w'.heap.size
  block : ∀ k, k < w.heap.size → ¬ S k → w'.heap[k]? = w.heap[k]?

theorem Fr.refl (S : Nat → Prop) (w : World) : Fr S w w := ⟨rfl, rfl, rfl, Nat.le_refl _, fun _ _ _ => rfl⟩
theorem Fr.trans {S S' : Nat → Prop} {a b c : World} (h : Fr S a b) (k : Fr S' b c) (hs : ∀ i, i < a.heap.size → S' i → S i) : Fr S a c :=
  ⟨k.os.trans h.os, k.tape.trans h.tape, k.output.trans h.output, Nat.le_trans h.size k.size,
   fun i hi hn => (k.block i (Nat.lt_of_lt_of_le hi h.size) (fun hs' => hn (hs i hi hs'))).trans (h.block i hi hn)⟩
theorem Fr.then {S : Nat → Prop} {a b c : World} (h : Fr S a b) (k : Fr S b c) : Fr S a c := h.trans k fun _ _ h => h
theorem Fr.mono {S S' : Nat → Prop} {a b : World} (h : Fr S a b) (hs : ∀ i, i < a.heap.size → S i → S' i) : Fr S' a b :=
  ⟨h.os, h.tape, h.output, h.size, fun i hi hn => h.block i hi (fun hs' => hn (hs i hi hs'))⟩
theorem Fr.drew {S : Nat → Prop} {a w : World} (h : Fr S a w) : Fr S a w.drew := ⟨h.os, h.tape, h.output, h.size, h.block⟩
theorem Fr.drewN {S : Nat → Prop} {a w : World} (h : Fr S a w) (n : Nat) : Fr S a (w.drewN n) := ⟨h.os, h.tape, h.output, h.size, h.block⟩
theorem Fr.alloc {S : Nat → Prop} {a w : World} (h : Fr S a w) (o : Obj) : Fr S a (w.alloc o) :=
  ⟨h.os, h.tape, h.output, by have := h.size; simp; omega, fun i hi hn => (Below.heap_alloc w o i (Nat.lt_of_lt_of_le hi h.size)).trans (h.block i hi hn)⟩
theorem Fr.setCell {S : Nat → Prop} {a w : World} (h : Fr S a w) {p : Addr} (hp : S p.block ∨ a.heap.size ≤ p.block) (u : Value) : Fr S a (w.setCell p u) :=
  ⟨h.os, h.tape, h.output, by simpa [World.setCell] using h.size, fun i hi hn => (Below.heap_setCell w p u i (by
    rintro rfl
    rcases hp with hp | hp
    · exact hn hp
    · omega)).trans (h.block i hi hn)⟩
theorem Fr.grown {S : Nat → Prop} {a w w' : World} {row : Option Nat} (h : Fr S a w) (hg : w.grownBy w' row) (hr : ∀ k, row = some k → S k ∨ a.heap.size ≤ k) : Fr S a w' :=
  ⟨hg.os.trans h.os, hg.tape.trans h.tape, hg.output.trans h.output, Nat.le_trans h.size hg.size, fun i hi hn => (hg.block i (Nat.lt_of_lt_of_le hi h.size) (fun e => by
    rcases hr i e.symm with h1 | h1
    · exact hn h1
    · omega)).trans (h.block i hi hn)⟩
theorem Fr.of_grown {S : Nat → Prop} {w w' : World} {row : Option Nat} (hg : w.grownBy w' row) (hr : ∀ k, row = some k → S k) : Fr S w w' :=
  (Fr.refl S w).grown hg fun k e => Or.inl (hr k e)
theorem Fr.of_below {S : Nat → Prop} {w w' : World} (hg : Below w.heap.size w w') : Fr S w w' := ⟨hg.os, hg.tape, hg.output, hg.size, fun i hi _ => hg.block i hi⟩
theorem Fr.below_then {S : Nat → Prop} {a w w' : World} (h : Fr S a w) (hg : Below w.heap.size w w') : Fr S a w' := h.then (Fr.of_below hg)
theorem Fr.below {S : Nat → Prop} {B : Nat} {w w' : World} (h : Fr S w w') (hB : B ≤ w.heap.size) (hs : ∀ i, S i → B ≤ i) : Below B w w' :=
  ⟨h.os, h.tape, h.output, h.size, fun i hi => h.block i (by omega) (fun h1 => by have := hs i h1; omega)⟩
theorem Fr.heap {S : Nat → Prop} {w w' : World} (h : Fr S w w') {k : Nat} {o : Obj} (hk : w.heap[k]? = some o) (hn : ¬ S k) : w'.heap[k]? = some o :=
  (h.block k (by rcases Nat.lt_or_ge k w.heap.size with h1 | h1
                 · exact h1
                 · rw [Array.getElem?_eq_none h1] at hk; cases hk) hn).trans hk

theorem lt_of_heap {w : World} {k : Nat} {o : Obj} (hk : w.heap[k]? = some o) : k < w.heap.size := by
  rcases Nat.lt_or_ge k w.heap.size with h1 | h1
  · exact h1
  · rw [Array.getElem?_eq_none h1] at hk; cases hk

/-! ### a block of cells, whole -/

/-- Block g is just the cells cs, of element type t, none frozen. -/
def Blk (w : World) (g : Nat) (t : TypeId) (cs : Array Value) : Prop := w.heap[g]? = some (.cells cs t (0, 0))

section
variable {w w' : World} {g : Nat} {t : TypeId} {cs : Array Value}
theorem Blk.lt (h : Blk w g t cs) : g < w.heap.size := lt_of_heap h
theorem Blk.cell (h : Blk w g t cs) (i : Nat) : w.cell? ⟨g, i, none⟩ = cs[i]? := cell_of_row w g i cs t (0, 0) h
theorem Blk.frozen (h : Blk w g t cs) (i : Nat) : w.frozen? ⟨g, i, none⟩ = false := by
  unfold Blk at h
  simp [World.frozen?, h]
theorem Blk.new (w : World) (t : TypeId) (cs : Array Value) : Blk (w.alloc (.cells cs t)) w.heap.size t cs := heap_alloc_new w _
theorem Blk.alloc (h : Blk w g t cs) (o : Obj) : Blk (w.alloc o) g t cs := (Below.heap_alloc w o g h.lt).trans h
theorem Blk.set_ (h : Blk w g t cs) (i : Nat) (u : Value) : Blk (w.setCell ⟨g, i, none⟩ u) g t (cs.setIfInBounds i u) := by
  unfold Blk at h ⊢
  simp [World.setCell, Array.getElem?_modify, h]
theorem Blk.far (h : Blk w g t cs) {p : Addr} (hp : g ≠ p.block) (u : Value) : Blk (w.setCell p u) g t cs := (Below.heap_setCell w p u g hp).trans h
theorem Blk.fr {S : Nat → Prop} (h : Blk w g t cs) (hb : Fr S w w') (hg : ¬ S g) : Blk w' g t cs := hb.heap h hg
theorem Blk.grown {row : Option Nat} (h : Blk w g t cs) (hb : w.grownBy w' row) (hg : some g ≠ row) : Blk w' g t cs := (hb.block g h.lt hg).trans h
theorem Blk.uniq {t' : TypeId} {cs' : Array Value} (h : Blk w g t cs) (h' : Blk w g t' cs') : t = t' ∧ cs = cs' := by
  unfold Blk at h h'
  rw [h] at h'
  cases h'
  exact ⟨rfl, rfl⟩
end

/-! ### a map's block -/

/-- An element's value, as it stands. -/
def rawR (v : Value) : Option (DataW Value × List MemPlace) := some (.held v, [])

def heldP (p : Lit × Value) : Lit × DataW Value := (p.1, .held p.2)

/-- Block b is a map that holds just the pairs of L (in whatever order). -/
def MapL (P : Program) (k : TypeId) (w : World) (b : Nat) (L : List (Lit × Value)) : Prop :=
  ∃ es clock, w.heap[b]? = some (.map es clock) ∧ Fit P k rawR es clock ∧ (es.toList.map (rg P k rawR)).Perm (L.map heldP)

section
variable {P : Program} {k : TypeId} {w w' : World} {b : Nat} {L L' : List (Lit × Value)}

theorem apart_uniq {kl : Lit} {v v' : Value} : ∀ {L : List (Lit × Value)}, L.Pairwise (fun p q => p.1 ≠ q.1) → (kl, v) ∈ L → (kl, v') ∈ L → v = v'
  | [], _, h, _ => by cases h
  | p :: r, ha, h, h' => by
    obtain ⟨h1, h2⟩ := List.pairwise_cons.1 ha
    rcases List.mem_cons.1 h with e | h
    · rcases List.mem_cons.1 h' with e' | h'
      · rw [← e] at e'; cases e'; rfl
      · exact absurd (by rw [← e]) (h1 _ h')
    · rcases List.mem_cons.1 h' with e' | h'
      · exact absurd (by rw [← e']) (h1 _ h)
      · exact apart_uniq h2 h h'

theorem heldP_inj {p q : Lit × Value} (h : heldP p = heldP q) : p = q := by
  obtain ⟨a, b⟩ := p
  obtain ⟨c, d⟩ := q
  simp only [heldP, Prod.mk.injEq, DataW.held.injEq] at h
  obtain ⟨rfl, rfl⟩ := h
  rfl

theorem MapL.perm (h : MapL P k w b L) (hp : L.Perm L') : MapL P k w b L' := by
  obtain ⟨es, clock, hb, F, hpm⟩ := h
  exact ⟨es, clock, hb, F, hpm.trans (hp.map _)⟩
theorem MapL.lt (h : MapL P k w b L) : b < w.heap.size := by
  obtain ⟨es, clock, hb, _⟩ := h
  exact lt_of_heap hb
theorem MapL.heap (h : MapL P k w b L) (hb : w'.heap[b]? = w.heap[b]?) : MapL P k w' b L := by
  obtain ⟨es, clock, h1, h2⟩ := h
  exact ⟨es, clock, hb.trans h1, h2⟩
theorem MapL.fr {S : Nat → Prop} (h : MapL P k w b L) (hf : Fr S w w') (hb : ¬ S b) : MapL P k w' b L := h.heap (hf.block b h.lt hb)
theorem MapL.grown {row : Option Nat} (h : MapL P k w b L) (hg : w.grownBy w' row) (hne : some b ≠ row) : MapL P k w' b L := h.heap (hg.block b h.lt hne)
theorem MapL.alloc (h : MapL P k w b L) (o : Obj) : MapL P k (w.alloc o) b L := h.heap (Below.heap_alloc w o b h.lt)
theorem MapL.no_cells (h : MapL P k w b L) {t : TypeId} {cs : Array Value} {f : Nat × Nat} : w.heap[b]? ≠ some (.cells cs t f) := by
  obtain ⟨es, clock, h1, _⟩ := h
  rw [h1]
  intro e
  cases e
theorem MapL.ne_blk (h : MapL P k w b L) {g : Nat} {t : TypeId} {cs : Array Value} (hg : Blk w g t cs) : b ≠ g := by
  rintro rfl
  exact h.no_cells hg
theorem MapL.setCell (h : MapL P k w b L) {a : Addr} (ha : b ≠ a.block) (u : Value) : MapL P k (w.setCell a u) b L := h.heap (Below.heap_setCell w a u b ha)
theorem MapL.made (w : World) (P : Program) (k : TypeId) : MapL P k (w.alloc (.map #[] 0)) w.heap.size [] :=
  ⟨#[], 0, (MapKept.heap_alloc w _).1, ⟨by simp, MapKept.stamped_empty 0, by simp⟩, by simp⟩

theorem MapL.apart (h : MapL P k w b L) (K : Keyed P k) : L.Pairwise (fun p q => p.1 ≠ q.1) := by
  obtain ⟨es, clock, hb, F, hp⟩ := h
  have h1 := fit_apart K F
  have h2 := (hp.pairwise_iff (fun {a b} (h : a.1 ≠ b.1) => h.symm)).1 h1
  rw [List.pairwise_map] at h2
  exact h2.imp fun h => h

theorem MapL.keys (h : MapL P k w b L) : ∀ p ∈ L, ∃ v, keyOf P k v = some p.1 := by
  obtain ⟨es, clock, hb, F, hp⟩ := h
  intro p hpL
  have : heldP p ∈ es.toList.map (rg P k rawR) := hp.mem_iff.2 (List.mem_map.2 ⟨p, hpL, rfl⟩)
  obtain ⟨v, hv⟩ := fit_keys F _ this
  exact ⟨v, hv⟩

theorem MapL.length (h : MapL P k w b L) {t e : TypeId} (ht : P.underlying t = some (.map k e)) (ty : TypeId) :
    (Builtin.len_ #[t] ty #[.map (some b)]).run P w = .ok (.int .i64 L.length) w := by
  obtain ⟨es, clock, hb, F, hp⟩ := h
  have e1 : es.size = L.length := by simpa using hp.length_eq
  rw [← e1]
  simp [Builtin.len_, run_underlying ht, MapKept.run_getObj_map hb, goInt, Result.andThen]

theorem rg_raw {x : MapEntry} {es : Array MapEntry} {clock : Nat} (F : Fit P k rawR es clock) (hx : x ∈ es.toList) {kl : Lit} (hk : keyOf P k x.key = some kl) : rg P k rawR x = heldP (kl, x.val) := by
  obtain ⟨y, hy⟩ := F.reads x hx
  rw [rg_of hy]
  have h1 := rd_key hy
  obtain ⟨z, hz, hd⟩ := rd_val hy
  rw [hk] at h1
  simp only [rawR, Option.some.injEq] at hz
  subst hz
  exact Prod.ext (Option.some.inj h1).symm hd

theorem MapL.look (h : MapL P k w b L) (K : Keyed P k) {t e : TypeId} (ht : P.underlying t = some (.map k e)) {z : Value} (hz : (zeroValue e).run P w = .ok z w) {key : Value} {kl : Lit} (hkey : keyOf P k key = some kl) (c : Bool) :
    (∃ v, (kl, v) ∈ L ∧ (Instr.lookup t (.map (some b)) key c).run P w = .ok (if c then .tuple #[v, .bool true] else v) w) ∨
    ((∀ p ∈ L, p.1 ≠ kl) ∧ (Instr.lookup t (.map (some b)) key c).run P w = .ok (if c then .tuple #[z, .bool false] else z) w) := by
  obtain ⟨es, clock, hb, F, hp⟩ := h
  rcases K.find w hkey es.toList F.keys with ⟨h1, h2⟩ | ⟨j, e0, h1, h2, h3⟩
  · refine Or.inr ⟨fun p hpL e => ?_, by simp [Instr.lookup, run_underlying ht, MapKept.run_getObj_map hb, K.check w _ hkey, h1, hz, Result.andThen]⟩
    have hm : heldP p ∈ es.toList.map (rg P k rawR) := hp.mem_iff.2 (List.mem_map.2 ⟨p, hpL, rfl⟩)
    obtain ⟨x, hx, hxe⟩ := List.mem_map.1 hm
    obtain ⟨l, hl⟩ := F.keys x hx
    rw [rg_raw F hx hl] at hxe
    have hpe := heldP_inj hxe
    subst hpe
    simp only at e
    subst e
    exact h2 x hx (K.inj hl hkey)
  · refine Or.inl ⟨e0.val, ?_, by simp [Instr.lookup, run_underlying ht, MapKept.run_getObj_map hb, K.check w _ hkey, h1, Result.andThen]⟩
    have hm0 : e0 ∈ es.toList := List.mem_of_getElem? h2
    have hr := rg_raw F hm0 (h3 ▸ hkey)
    have : heldP (kl, e0.val) ∈ L.map heldP := hp.mem_iff.1 (List.mem_map.2 ⟨e0, hm0, hr⟩)
    obtain ⟨p, hpL, hpe⟩ := List.mem_map.1 this
    rw [← heldP_inj hpe]
    exact hpL

theorem filter_held (kl : Lit) (L : List (Lit × Value)) : (L.map heldP).filter (notKey kl) = (L.filter (fun p => !p.1.sameKey kl)).map heldP := by
  rw [List.filter_map]
  rfl

theorem MapL.store (h : MapL P k w b L) (K : Keyed P k) {t e : TypeId} (ht : P.underlying t = some (.map k e)) (hn : L.length < maxLen) {key val : Value} {kl : Lit} (hkey : keyOf P k key = some kl) :
    ∃ w', (Instr.mapUpdate t (.map (some b)) key val).run P w = .ok () w' ∧ MapL P k w' b ((kl, val) :: L.filter (fun p => !p.1.sameKey kl)) ∧ w.grownBy w' (some b) := by
  obtain ⟨es, clock, hb, F, hp⟩ := h
  have e1 : es.size = L.length := by simpa using hp.length_eq
  obtain ⟨es', clock', hrun, F', hput, _⟩ := Maps.fit_store (R' := rawR) K ht hb F (by omega) (fun _ _ _ _ hz => hz) hkey (val := val) rfl
  refine ⟨_, hrun, ⟨es', clock', ChangeMaps.heap_setBlock_same hb _, F', ?_⟩, ⟨rfl, rfl, rfl, by simp [setBlock], fun i _ hi => ChangeMaps.heap_setBlock_other hb _ (fun e => hi (by rw [e]))⟩⟩
  have p1 : (es'.toList.map (rg P k rawR)).Perm (putKey kl (.held val) ((es.toList.map (rg P k rawR)).foldr DataW.insert [])) := by
    rw [← hput]
    exact (WideShapes.sorted_perm _).symm
  refine p1.trans ?_
  unfold putKey
  refine (WideShapes.insert_perm _ _).trans ?_
  rw [List.map_cons, ← filter_held]
  exact List.Perm.cons _ (((WideShapes.sorted_perm _).trans hp).filter _)

theorem MapL.drop (h : MapL P k w b L) (K : Keyed P k) {t e : TypeId} (ht : P.underlying t = some (.map k e)) {key : Value} {kl : Lit} (hkey : keyOf P k key = some kl) (ty : TypeId) :
    ∃ w', (Builtin.delete_ #[t, k] ty #[.map (some b), key]).run P w = .ok (.tuple #[]) w' ∧ MapL P k w' b (L.filter (fun p => !p.1.sameKey kl)) ∧ w.grownBy w' (some b) := by
  obtain ⟨es, clock, hb, F, hp⟩ := h
  obtain ⟨es', hrun, F', hle, hdel, _⟩ := Maps.fit_drop (ty := ty) K ht hb F hkey
  refine ⟨_, hrun, ⟨es', clock, ChangeMaps.heap_setBlock_same hb _, F', ?_⟩, ⟨rfl, rfl, rfl, by simp [setBlock], fun i _ hi => ChangeMaps.heap_setBlock_other hb _ (fun e => hi (by rw [e]))⟩⟩
  have p1 : (es'.toList.map (rg P k rawR)).Perm (delKey kl ((es.toList.map (rg P k rawR)).foldr DataW.insert [])) := by
    rw [← hdel]
    exact (WideShapes.sorted_perm _).symm
  refine p1.trans ?_
  unfold delKey
  rw [← filter_held]
  exact ((WideShapes.sorted_perm _).trans hp).filter _

end

section
variable {P : Program} {k : TypeId} {w : World} {b : Nat} {L : List (Lit × Value)} {ops : Array Oper} {rest : List Oper} {o : Oper} {a : Act} {Q : Exit → Act → World → Prop}

/-- 'v, ok := m[k]', 'm[k]': where the key stands in the map. -/
theorem wpList_look_hit (c : Bool) (hg : o.guard = none) (m x : Operand) (t : TypeId) (hop : o.op = Op.lookup t m x c)
    (e : TypeId) (K : Keyed P k) (ht : P.underlying t = some (.map k e)) {z : Value} (hz : (zeroValue e).run P w = .ok z w)
    (hm : a.eval m = .map (some b)) (h : MapL P k w b L) (key : Value) (kl : Lit) (hx : a.eval x = key) (hkey : keyOf P k key = some kl) (v : Value) (hv : (kl, v) ∈ L)
    (hK : wpList P ops Q rest (a.put o.dst (if c then .tuple #[v, .bool true] else v)) w) : wpList P ops Q (o :: rest) a w := by
  refine wpList_plain hg fun K' hK' => ?_
  rcases h.look K ht hz hkey c with ⟨v', h1, h2⟩ | ⟨h1, h2⟩
  · have e1 : v' = v := apart_uniq (h.apart K) h1 hv
    subst e1
    unfold Oper.wp
    simp [execOp, hop, hm, hx, h2, Result.andThen]
    exact hK' _ _ hK
  · exact absurd rfl (h1 _ hv)

theorem wpList_look_miss (c : Bool) (hg : o.guard = none) (m x : Operand) (t : TypeId) (hop : o.op = Op.lookup t m x c)
    (e : TypeId) (K : Keyed P k) (ht : P.underlying t = some (.map k e)) {z : Value} (hz : (zeroValue e).run P w = .ok z w)
    (hm : a.eval m = .map (some b)) (h : MapL P k w b L) (key : Value) (kl : Lit) (hx : a.eval x = key) (hkey : keyOf P k key = some kl) (hv : ∀ p ∈ L, p.1 ≠ kl)
    (hK : wpList P ops Q rest (a.put o.dst (if c then .tuple #[z, .bool false] else z)) w) : wpList P ops Q (o :: rest) a w := by
  refine wpList_plain hg fun K' hK' => ?_
  rcases h.look K ht hz hkey c with ⟨v', h1, h2⟩ | ⟨h1, h2⟩
  · exact absurd rfl (hv _ h1)
  · unfold Oper.wp
    simp [execOp, hop, hm, hx, h2, Result.andThen]
    exact hK' _ _ hK

theorem wpList_mapStore (hg : o.guard = none) (m x v : Operand) (t : TypeId) (hop : o.op = Op.mapUpdate t m x v)
    (e : TypeId) (K : Keyed P k) (ht : P.underlying t = some (.map k e))
    (hm : a.eval m = .map (some b)) (h : MapL P k w b L) (hn : L.length < maxLen) (key val : Value) (kl : Lit) (hx : a.eval x = key) (hv : a.eval v = val) (hkey : keyOf P k key = some kl)
    (hK : ∀ w', MapL P k w' b ((kl, val) :: L.filter (fun p => !p.1.sameKey kl)) → w.grownBy w' (some b) → wpList P ops Q rest (a.put o.dst undef) w') : wpList P ops Q (o :: rest) a w := by
  refine wpList_plain hg fun K' hK' => ?_
  obtain ⟨w', hrun, r1, r2⟩ := h.store K ht hn hkey (val := val)
  unfold Oper.wp
  simp [execOp, hop, hm, hx, hv, hrun, Result.andThen]
  exact hK' _ _ (hK w' r1 r2)

theorem wpList_mapDrop (hg : o.guard = none) (m x : Operand) (t : TypeId) (hop : o.op = Op.call { callee := Callee.builtin Builtin.delete, args := #[m, x], argTypes := #[t, k] })
    (e : TypeId) (K : Keyed P k) (ht : P.underlying t = some (.map k e))
    (hm : a.eval m = .map (some b)) (h : MapL P k w b L) (key : Value) (kl : Lit) (hx : a.eval x = key) (hkey : keyOf P k key = some kl)
    (hK : ∀ w', MapL P k w' b (L.filter (fun p => !p.1.sameKey kl)) → w.grownBy w' (some b) → wpList P ops Q rest (a.put o.dst (.tuple #[])) w') : wpList P ops Q (o :: rest) a w := by
  refine wpList_plain hg fun K' hK' => ?_
  obtain ⟨w', hrun, r1, r2⟩ := h.drop K ht hkey o.type
  unfold Oper.wp
  simp [execOp, hop, resolve, invoke, builtin, hm, hx, hrun, Result.andThen]
  exact hK' _ _ (hK w' r1 r2)
end

end Go.Proofs.Ytomoomopodihhaa
