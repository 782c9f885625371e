/-
  append of whatever row (nil, too) onto a row of the call's own: where the new slice lies; at a plain region's list, and at a step of a region that draws.
-/
import Derived.Test.YtomoomopodihhaaPh
import Derived.Deep.AppendLies
import Derived.Deep.RegionLaw
namespace Go.Proofs.Ytomoomopodihhaa
open Go.RowKit Go.Maps

/-- What is to be appended can be read. -/
structure NewsOk (w : World) (A : Option Addr) (m size : Nat) (news : List Value) : Prop where
  len : news.length = m * size
  rd : ∀ ad, A = some ad → ∀ j u, news[j]? = some u → w.cell? (ad.add j) = some u
  one : ∀ u ∈ news, u.oneCell' = true
  nil : A = none → m = 0

theorem NewsOk.fr {S : Nat → Prop} {w w' : World} {A : Option Addr} {m size : Nat} {news : List Value} (h : NewsOk w A m size news) (hf : Fr S w w') (hs : ∀ ad, A = some ad → ¬ S ad.block) : NewsOk w' A m size news :=
  ⟨h.len, fun ad ha j u hu => by
    have h1 := h.rd ad ha j u hu
    have hb : (ad.add j).block = ad.block := by unfold Addr.add; split <;> rfl
    have hlt := World.block_lt_of_cell? w _ h1
    rw [World.cell?_of_block (hf.block _ hlt (by rw [hb]; exact hs ad ha))]
    exact h1, h.one, h.nil⟩
theorem NewsOk.fr0 {w w' : World} {A : Option Addr} {m size : Nat} {news : List Value} (h : NewsOk w A m size news) (hf : Fr (fun _ => False) w w') : NewsOk w' A m size news := h.fr hf (fun _ _ h => h)

theorem NewsOk.of_row {w : World} {base : Nat} {e : TypeId} {size : Nat} {A : Option Addr} {m n c : Nat} {xs : List Value} (h : w.ownsRow base e size (.slice A n c) m xs) (h1 : ∀ u ∈ xs, u.oneCell' = true) : NewsOk w A m size xs := by
  refine ⟨h.1, fun ad ha j u hu => ?_, h1, fun ha => ?_⟩
  · subst ha
    rcases h.2 with ⟨h2, _⟩ | ⟨g, cap, cur, hv, _⟩
    · cases h2
    · cases hv
      exact h.cells (g := g) rfl j u hu
  · subst ha
    rcases h.2 with ⟨_, h2⟩ | ⟨g, cap, cur, hv, _⟩
    · exact h2
    · cases hv

theorem NewsOk.block {w : World} {B : Nat} {e : TypeId} {cs : List Value} {size : Nat} (h : Blk w B e cs.toArray) (hl : cs.length = size) (h1 : ∀ u ∈ cs, u.oneCell' = true) : NewsOk w (some ⟨B, 0, none⟩) 1 size cs :=
  ⟨by rw [hl, Nat.one_mul], fun ad ha j u hu => by cases ha; exact World.news_of_block h j u (by simpa using hu), h1, fun h => by cases h⟩

section
variable {P : Program} (w : World)

theorem run_app (t ty : TypeId) (base : Nat) (e : TypeId) (i : TypeInfo) (z : Value) (size bytes : Nat) (ht : P.underlying t = some (.slice e)) (hi : P.info? e = some i) (hz : i.zero = some z)
    (hsize : i.size = size) (hby : i.bytes = bytes) (hzs : z.cells.size = size) (hsz : 0 < size)
    (v : Value) (n : Nat) (xs : List Value) (hown : w.ownsRow base e size v n xs)
    (A : Option Addr) (m c : Nat) (news : List Value) (hN : NewsOk w A m size news)
    (h63 : n + m ≤ maxLen) (hbytes : (n + m) * bytes ≤ 140737488355328) (hbase : base ≤ w.heap.size) :
    ∃ A' cap' w', (Builtin.append_ #[t, t] ty #[v, .slice A m c]).run P w = .ok (.slice A' (n + m) cap') w' ∧ w'.ownsRow base e size (.slice A' (n + m) cap') (n + m) (xs ++ news) ∧ w.grownBy w' v.ownBlock ∧
      ((Value.slice A' (n + m) cap').ownBlock = v.ownBlock ∨ (Value.slice A' (n + m) cap').ownBlock = some w.heap.size) := by
  cases A with
  | some ad =>
    obtain ⟨v', w', h1, h2, h3, _, h5⟩ := run_append_own_at (P := P) w base t ty e i z size bytes ht hi hz hsize hby hzs hsz v n xs hown ad m c news hN.len (hN.rd ad rfl) hN.one h63 hbytes hbase
    obtain ⟨A', cap', rfl⟩ := row_shape h2
    exact ⟨A', cap', w', h1, h2, h3, h5⟩
  | none =>
    obtain rfl : m = 0 := hN.nil rfl
    have hn : news = [] := List.eq_nil_of_length_eq_zero (by simpa using hN.len)
    subst hn
    have hle : ∃ A' cap', v = .slice A' n cap' ∧ n ≤ cap' := by
      rcases hown.2 with ⟨rfl, rfl⟩ | ⟨g, cap, cur, rfl, _, _, hnc, _⟩
      · exact ⟨none, 0, rfl, Nat.le_refl _⟩
      · exact ⟨_, cap, rfl, hnc⟩
    obtain ⟨A', cap', rfl, hnc⟩ := hle
    refine ⟨A', cap', w, ?_, by simpa using hown, ⟨rfl, rfl, rfl, Nat.le_refl _, fun _ _ _ => rfl⟩, Or.inl rfl⟩
    cases A' <;> simp [Builtin.append_, run_underlying ht, sizeOf, typeInfo, hi, Builtin.lenOf, Builtin.firstCells, hnc, storeCells]

theorem wpList_app {ops : Array Oper} {rest : List Oper} {o : Oper} {a : Act} {Q : Exit → Act → World → Prop} (hgd : o.guard = none) (s x : Operand) (t : TypeId)
    (ho : o.op = .call { callee := .builtin .append, args := #[s, x], argTypes := #[t, t] })
    (base : Nat) (e : TypeId) (i : TypeInfo) (z : Value) (size bytes : Nat) (ht : P.underlying t = some (.slice e)) (hi : P.info? e = some i) (hz : i.zero = some z)
    (hsize : i.size = size) (hby : i.bytes = bytes) (hzs : z.cells.size = size) (hsz : 0 < size)
    (v : Value) (n : Nat) (xs : List Value) (hs : a.eval s = v) (hown : w.ownsRow base e size v n xs)
    (A : Option Addr) (m c : Nat) (news : List Value) (hx : a.eval x = .slice A m c) (hN : NewsOk w A m size news)
    (h63 : n + m ≤ maxLen) (hbytes : (n + m) * bytes ≤ 140737488355328) (hbase : base ≤ w.heap.size) (r : Nat) (hnm : n + m = r)
    (h : ∀ A' cap' w', w'.ownsRow base e size (.slice A' r cap') r (xs ++ news) → w.grownBy w' v.ownBlock → ((Value.slice A' r cap').ownBlock = v.ownBlock ∨ (Value.slice A' r cap').ownBlock = some w.heap.size) → wpList P ops Q rest (a.put o.dst (.slice A' r cap')) w') :
    wpList P ops Q (o :: rest) a w := by
  subst hnm
  refine wpList_plain hgd fun K hK => ?_
  obtain ⟨A', cap', w', hr, h2, h3, h5⟩ := run_app (P := P) w t o.type base e i z size bytes ht hi hz hsize hby hzs hsz v n xs hown A m c news hN h63 hbytes hbase
  unfold Oper.wp execOp
  simp only [ho, resolve, invoke, builtin, Sem.run_bind, Sem.run_pure, Result.andThen_ok, List.map_toArray, List.map_cons, List.map_nil, hs, hx, hr]
  exact hK _ _ (h A' cap' w' h2 h3 h5)

theorem step_app {ops : Array Oper} {o : Oper} {a : Act} {K : Act → World → Prop} {Q : Exit → Act → World → Prop} {E : Prop} (hgd : o.guard = none) (s x : Operand) (t : TypeId)
    (ho : o.op = .call { callee := .builtin .append, args := #[s, x], argTypes := #[t, t] })
    (base : Nat) (e : TypeId) (i : TypeInfo) (z : Value) (size bytes : Nat) (ht : P.underlying t = some (.slice e)) (hi : P.info? e = some i) (hz : i.zero = some z)
    (hsize : i.size = size) (hby : i.bytes = bytes) (hzs : z.cells.size = size) (hsz : 0 < size)
    (v : Value) (n : Nat) (xs : List Value) (hs : a.eval s = v) (hown : w.ownsRow base e size v n xs)
    (A : Option Addr) (m c : Nat) (news : List Value) (hx : a.eval x = .slice A m c) (hN : NewsOk w A m size news)
    (h63 : n + m ≤ maxLen) (hbytes : (n + m) * bytes ≤ 140737488355328) (hbase : base ≤ w.heap.size) (r : Nat) (hnm : n + m = r)
    (h : ∀ A' cap' w', w'.ownsRow base e size (.slice A' r cap') r (xs ++ news) → w.grownBy w' v.ownBlock → ((Value.slice A' r cap').ownBlock = v.ownBlock ∨ (Value.slice A' r cap').ownBlock = some w.heap.size) → K (a.put o.dst (.slice A' r cap')) w') :
    if Region.wanted o (yielded ops a.tmps) = true then Oper.wp P o a w K Q else E := by
  subst hnm
  have hw : Region.wanted o (yielded ops a.tmps) = true := by simp [Region.wanted, hgd]
  rw [if_pos hw]
  obtain ⟨A', cap', w', hr, h2, h3, h5⟩ := run_app (P := P) w t o.type base e i z size bytes ht hi hz hsize hby hzs hsz v n xs hown A m c news hN h63 hbytes hbase
  unfold Oper.wp execOp
  simp only [ho, resolve, invoke, builtin, Sem.run_bind, Sem.run_pure, Result.andThen_ok, List.map_toArray, List.map_cons, List.map_nil, hs, hx, hr]
  exact h A' cap' w' h2 h3 h5
end

theorem CoresOk.news {w : World} {A : Option Addr} {cap : Nat} {ns : List Int} (h : CoresOk w (.slice A ns.length cap) ns) : NewsOk w A ns.length 1 (rowI ns) := by
  refine ⟨by unfold rowI; simp, fun ad ha j u hu => ?_, fun u hu => ?_, fun ha => ?_⟩
  · subst ha
    exact h.ints.news j u hu
  · unfold rowI at hu
    obtain ⟨x, _, rfl⟩ := List.mem_map.1 hu
    rfl
  · subst ha
    cases ns with
    | nil => rfl
    | cons a r =>
      obtain ⟨b, off, e, _⟩ := h.ints.el (k := 0) (by simp)
      cases e

theorem oneI (ns : List Int) : ∀ u ∈ rowI ns, u.oneCell' = true := fun u hu => by
  unfold rowI at hu
  obtain ⟨x, _, rfl⟩ := List.mem_map.1 hu
  rfl

/-- .. of tasks. -/
theorem oneT {T : List TaskD} (h : ∀ x ∈ T, ∃ A n c, x.cv = .slice A n c) : ∀ u ∈ T.flatMap TaskD.cells, u.oneCell' = true := fun u hu => by
  obtain ⟨x, hx, hu⟩ := List.mem_flatMap.1 hu
  obtain ⟨A, n, c, e⟩ := h x hx
  unfold TaskD.cells at hu
  rw [e] at hu
  simp only [List.mem_cons, List.not_mem_nil, or_false] at hu
  rcases hu with rfl | rfl | rfl | rfl | rfl | rfl | rfl | rfl <;> rfl

theorem empty_rowT (W : World) (base : Nat) (hB : base ≤ W.heap.size) : (W.alloc (.cells #[] 61)).ownsRow base 61 8 (.slice (some ⟨W.heap.size, 0, none⟩) 0 0) 0 [] := by
  refine ⟨rfl, Or.inr ⟨W.heap.size, 0, #[], rfl, hB, heap_alloc_new W _, ?_⟩⟩
  simp [maxLen]

end Go.Proofs.Ytomoomopodihhaa
