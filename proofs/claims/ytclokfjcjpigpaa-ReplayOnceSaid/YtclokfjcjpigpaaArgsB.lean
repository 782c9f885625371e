/-
  The laws' arguments that hold scripts.
-/
import Derived.Test.YtclokfjcjpigpaaArgs
import Derived.Test.YtclokfjcjpigpaaW
namespace Go.Proofs.Ytclokfjcjpigpaa
open Go.ChangeShapes Go.WideShapes Go.ChangeAt Go.RowKit Go.Deep

theorem ownK : ownKnob Try.prog.godebug = none := by kernel_rfl

theorem cells22 : Try.prog.cellsOf 22 = 1 := by kernel_rfl
theorem cells44 : Try.prog.cellsOf 44 = 10 := by kernel_rfl
theorem cells50 : Try.prog.cellsOf 50 = 10 := by kernel_rfl

instance : Inhabited OpD := ⟨⟨0, ⟨0, 0, 0, 0, 0, none, 0, [], 0⟩, 0, 0, 0⟩⟩

section
variable {H : Type} {enc : TypeId × Value → H} {W : World} {sp : Nat → Bool}

theorem op_cells33 {fuel : Nat} {cs : List Value} {y : DataW H × List MemPlace} (h : DataW.trod enc Try.prog W 0 sp true fuel 33 cs = some y) :
    ∃ o : OpD, cs = o.cells.toList ∧ o.c.wf ∧ Nums W W.heap.size o.c.A o.c.ns ∧ o.c.ns.length ≤ maxLen := by
  obtain ⟨xs, n, _, _, hcl, hlen, hg⟩ := DataW.trod_struct Try.underlying33 h
  rw [cells33] at hcl
  match cs, hcl with
  | [c0, c1, c2, c3, c4, c5, c6, c7, c8, c9, c10], _ =>
    have some_ : ∀ i, i < 5 → (xs[i]?).isSome = true := fun i hi => by
      have : xs.length = 5 := hlen
      simp [this, hi]
    obtain ⟨n0, rfl, w0⟩ := int_cell (by simpa [cells3] using hg 0 _ rfl) (some_ 0 (by omega))
    obtain ⟨y1, hy1⟩ := Option.isSome_iff_exists.1 (some_ 1 (by omega))
    obtain ⟨x, hx, hw, hN, hm⟩ := cred_cells (by simpa [cells31, hy1] using hg 1 _ rfl)
    obtain ⟨n2, rfl, w2⟩ := int_cell (by simpa [cells3] using hg 2 _ rfl) (some_ 2 (by omega))
    obtain ⟨n3, rfl, w3⟩ := int_cell (by simpa [cells3] using hg 3 _ rfl) (some_ 3 (by omega))
    obtain ⟨n4, rfl, w4⟩ := int_cell (by simpa [cells3] using hg 4 _ rfl) (some_ 4 (by omega))
    refine ⟨⟨n0, x, n2, n3, n4⟩, ?_, hw, hN, hm⟩
    simp only [CredD.cells, List.cons.injEq, and_true] at hx
    obtain ⟨rfl, rfl, rfl, rfl, rfl, rfl, rfl⟩ := hx
    rfl

theorem script_cells {fuel : Nat} {cs : List Value} {y : DataW H × List MemPlace} (h : DataW.trod enc Try.prog W 0 sp true fuel 22 cs = some y) :
    ∃ A l cap, cs = [.slice A (List.length l) cap] ∧ Ops W W.heap.size A l ∧ l.length ≤ maxLen := by
  rcases open_slice Try.underlying22 h with ⟨h1, _⟩ | ⟨a, len, cap, m, n, D, Pl, h1, _, h2, h3, hm, _, h5⟩
  · exact ⟨none, [], 0, by simpa using h1, ⟨fun k hk => by simp at hk, by simp, by simp, by simp⟩, by simp [maxLen]⟩
  · have hlm : len ≤ m := by rw [hm]; split <;> omega
    rw [cells33] at h5
    obtain ⟨f, hf⟩ := choose_lt (α := OpD) (p := fun i o => (∀ j u, o.cells[j]? = some u → W.cell? ((a.add (i * 11)).add j) = some u) ∧ o.c.wf ∧ Nums W W.heap.size o.c.A o.c.ns ∧ o.c.ns.length ≤ maxLen) (n := m) (fun i hi => by
      obtain ⟨cs', hc, ht⟩ := h5 i hi
      obtain ⟨o, rfl, hw, hN, hl⟩ := op_cells33 ht
      obtain ⟨_, _, hcell⟩ := World.cells?_some hc
      refine ⟨o, fun j u hu => ?_, hw, hN, hl⟩
      have hj : j < 11 := by
        have := (Array.getElem?_eq_some_iff.mp hu).1
        exact this
      rw [hcell j hj]
      simpa using hu)
    refine ⟨some a, (List.range len).map f, cap, by simpa using h1, ⟨fun k hk => ?_, ?_, ?_, ?_⟩, by simp; omega⟩
    · simp only [List.length_map, List.length_range] at hk
      have h0 := (hf 0 (by omega)).1 0 _ rfl
      obtain ⟨b, off, spot⟩ := a
      have hspot : spot = none := by simpa [Addr.add] using World.cell?_spot h0
      subst hspot
      refine ⟨b, off, rfl, World.block_lt_of_cell? W _ (by simpa [Addr.add] using h0), fun j u hu => ?_⟩
      simp only [List.getElem_map, List.getElem_range] at hu
      have := (hf k (by omega)).1 j u hu
      by_cases hk0 : k = 0
      · subst hk0
        by_cases hj0 : j = 0
        · subst hj0; simpa [Addr.add] using this
        · simpa [Addr.add, hj0] using this
      · have hk1 : k * 11 ≠ 0 := by omega
        by_cases hj0 : j = 0
        · subst hj0; simpa [Addr.add, hk1] using this
        · simpa [Addr.add, hk1, hj0] using this
    all_goals
      intro o ho
      obtain ⟨i, hi, rfl⟩ := List.mem_map.mp ho
      rw [List.mem_range] at hi
    · exact (hf i (by omega)).2.1
    · exact (hf i (by omega)).2.2.1
    · exact (hf i (by omega)).2.2.2

theorem script_arg {r : Reach} {b0 : Nat} {v : Value} {d : DataW H} {p : List MemPlace} (hv : Value.okWide Try.prog W r b0 22 v) (h : DataW.Trod enc Try.prog W 0 sp true 22 v d p) :
    ∃ A l cap, v = .slice A (List.length l) cap ∧ Ops W W.heap.size A l ∧ l.length ≤ maxLen := by
  obtain ⟨a0, len, cap, rfl⟩ := okWide_slice Try.underlying22 hv
  obtain ⟨fuel, hf⟩ := h
  obtain ⟨A, l, cap', h1, h2⟩ := script_cells hf
  exact ⟨A, l, cap', by simpa [Value.cells] using h1, h2⟩

/-- A struct Once: limit, cred, now, script. -/
theorem once_arg {r : Reach} {b0 : Nat} {v : Value} {d : DataW H} {p : List MemPlace} (hv : Value.okWide Try.prog W r b0 44 v) (h : DataW.Trod enc Try.prog W 0 sp true 44 v d p) :
    ∃ most x now A l cap, v = .agg #[.int .i64 most, .int .i64 x.job, .int .i64 x.epoch, .int .i64 x.step, .int .i64 x.frm, .int .i64 x.until_, .slice x.A x.ns.length x.c, .int .i64 x.cores, .int .i64 now, .slice A (List.length l) cap] ∧
      wf64 most ∧ wf64 now ∧ CredD.wf x ∧ Nums W W.heap.size x.A x.ns ∧ x.ns.length ≤ maxLen ∧ Ops W W.heap.size A l ∧ l.length ≤ maxLen := by
  obtain ⟨cs, rfl, _⟩ := okWide_struct Try.underlying44 hv
  obtain ⟨fuel, hf⟩ := h
  obtain ⟨xs, n, _, _, hcl, hlen, hg⟩ := DataW.trod_struct Try.underlying44 hf
  rw [cells44] at hcl
  simp only [Value.cells] at hcl hg
  have hcs : cs = cs.toList.toArray := by simp
  generalize cs.toList = l0 at *
  subst hcs
  match l0, hcl with
  | [c0, c1, c2, c3, c4, c5, c6, c7, c8, c9], _ =>
    have some_ : ∀ i, i < 4 → (xs[i]?).isSome = true := fun i hi => by
      have : xs.length = 4 := hlen
      simp [this, hi]
    obtain ⟨n0, rfl, w0⟩ := int_cell (by simpa [cells3] using hg 0 _ rfl) (some_ 0 (by omega))
    obtain ⟨y1, hy1⟩ := Option.isSome_iff_exists.1 (some_ 1 (by omega))
    obtain ⟨x, hx, hw, hN, hm⟩ := cred_cells (by simpa [cells31, hy1] using hg 1 _ rfl)
    obtain ⟨n2, rfl, w2⟩ := int_cell (by simpa [cells3] using hg 2 _ rfl) (some_ 2 (by omega))
    obtain ⟨y3, hy3⟩ := Option.isSome_iff_exists.1 (some_ 3 (by omega))
    obtain ⟨A, l, cap, hs, hO, hl⟩ := script_cells (by simpa [cells22, hy3] using hg 3 _ rfl)
    refine ⟨n0, x, n2, A, l, cap, ?_, w0, w2, hw, hN, hm, hO, hl⟩
    simp only [CredD.cells, List.cons.injEq, and_true] at hx hs
    obtain ⟨rfl, rfl, rfl, rfl, rfl, rfl, rfl⟩ := hx
    subst hs
    rfl

/-- A struct Back: cred, epoch, now, script. -/
theorem back_arg {r : Reach} {b0 : Nat} {v : Value} {d : DataW H} {p : List MemPlace} (hv : Value.okWide Try.prog W r b0 50 v) (h : DataW.Trod enc Try.prog W 0 sp true 50 v d p) :
    ∃ x ep now A l cap, v = .agg #[.int .i64 x.job, .int .i64 x.epoch, .int .i64 x.step, .int .i64 x.frm, .int .i64 x.until_, .slice x.A x.ns.length x.c, .int .i64 x.cores, .int .i64 ep, .int .i64 now, .slice A (List.length l) cap] ∧
      wf64 ep ∧ wf64 now ∧ CredD.wf x ∧ Nums W W.heap.size x.A x.ns ∧ x.ns.length ≤ maxLen ∧ Ops W W.heap.size A l ∧ l.length ≤ maxLen := by
  obtain ⟨cs, rfl, _⟩ := okWide_struct Try.underlying50 hv
  obtain ⟨fuel, hf⟩ := h
  obtain ⟨xs, n, _, _, hcl, hlen, hg⟩ := DataW.trod_struct Try.underlying50 hf
  rw [cells50] at hcl
  simp only [Value.cells] at hcl hg
  have hcs : cs = cs.toList.toArray := by simp
  generalize cs.toList = l0 at *
  subst hcs
  match l0, hcl with
  | [c0, c1, c2, c3, c4, c5, c6, c7, c8, c9], _ =>
    have some_ : ∀ i, i < 4 → (xs[i]?).isSome = true := fun i hi => by
      have : xs.length = 4 := hlen
      simp [this, hi]
    obtain ⟨y1, hy1⟩ := Option.isSome_iff_exists.1 (some_ 0 (by omega))
    obtain ⟨x, hx, hw, hN, hm⟩ := cred_cells (by simpa [cells31, hy1] using hg 0 _ rfl)
    obtain ⟨n0, rfl, w0⟩ := int_cell (by simpa [cells3] using hg 1 _ rfl) (some_ 1 (by omega))
    obtain ⟨n2, rfl, w2⟩ := int_cell (by simpa [cells3] using hg 2 _ rfl) (some_ 2 (by omega))
    obtain ⟨y3, hy3⟩ := Option.isSome_iff_exists.1 (some_ 3 (by omega))
    obtain ⟨A, l, cap, hs, hO, hl⟩ := script_cells (by simpa [cells22, hy3] using hg 3 _ rfl)
    refine ⟨x, n0, n2, A, l, cap, ?_, w0, w2, hw, hN, hm, hO, hl⟩
    simp only [CredD.cells, List.cons.injEq, and_true] at hx hs
    obtain ⟨rfl, rfl, rfl, rfl, rfl, rfl, rfl⟩ := hx
    subst hs
    rfl
end

end Go.Proofs.Ytclokfjcjpigpaa
