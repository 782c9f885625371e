/-
  The laws' arguments.
-/
import Derived.Test.YtdlpiaglgdafoaaLaw
import Derived.Test.YtdlpiaglgdafoaaTt
import Derived.Deep.Slices
namespace Go.Proofs.Ytdlpiaglgdafoaa
open Go.ChangeShapes Go.WideShapes Go.ChangeAt Go.RowKit Go.Deep

theorem lit_wf {n : Int} (h : (Lit.int .i64 n).wf = true) : wf64 n := by
  simp [Lit.wf, IntKind.min, IntKind.max, IntKind.signed, IntKind.bits] at h
  exact h
theorem cells3 : Try.prog.cellsOf 3 = 1 := by kernel_rfl
theorem cells43 : Try.prog.cellsOf 43 = 3 := by kernel_rfl
theorem own : ownKnob Try.prog.godebug = none := by kernel_rfl
theorem laidOut : laidOutB Try.prog = true := by kernel_rfl

/-- A slice of numbers that an argument holds. -/
structure NumsA (W : World) (v : Value) (ns : List Int) : Prop where
  ints : IntsV W v ns
  lt : 0 < ns.length → ∀ g, v.ownBlock = some g → g < W.heap.size
  le : ns.length ≤ maxLen
  wf : ∀ n ∈ ns, wf64 n

theorem NumsA.fr {W W' : World} {B : Nat} {v : Value} {ns : List Int} (h : NumsA W v ns) (hB : W.heap.size ≤ B) (hf : Fr (fun i => B ≤ i) W W') : IntsV W' v ns := by
  by_cases h0 : 0 < ns.length
  · exact h.ints.fr hf (fun g hg hi => by have := h.lt h0 g hg; omega)
  · obtain ⟨A, cap, e, _⟩ := h.ints
    exact ⟨A, cap, e, fun k hk => by omega⟩
theorem NumsA.shape {W : World} {v : Value} {ns : List Int} (h : NumsA W v ns) : ∃ A cap, v = .slice A ns.length cap := let ⟨A, cap, e, _⟩ := h.ints; ⟨A, cap, e⟩

/-- A script lies behind an address below block B. -/
structure OpsT (w : World) (B : Nat) (A : Option Addr) (l : List OpT) : Prop where
  at_ : ∀ k (hk : k < l.length), ∃ b off, A = some ⟨b, off, none⟩ ∧ b < B ∧ ∀ j u, (l[k]'hk).cells[j]? = some u → w.cell? ⟨b, off + k * 3 + j, none⟩ = some u
  wf : ∀ o ∈ l, wf64 o.id

instance : Inhabited OpT := ⟨⟨0, 0, 0⟩⟩

section
variable {H : Type} {enc : TypeId × Value → H} {W : World} {sp : Nat → Bool}

theorem int_cell {fuel : Nat} {c : Value} {y : Option (DataW H × List MemPlace)} (h : DataW.trod enc Try.prog W 0 sp true fuel 3 [c] = y) (hy : y.isSome = true) : ∃ n, c = .int .i64 n ∧ wf64 n := by
  obtain ⟨x, rfl⟩ := Option.isSome_iff_exists.1 hy
  obtain ⟨n, h1, _, h3⟩ := DataW.trod_int Try.underlying3 h
  exact ⟨n, by simpa using h1, lit_wf h3⟩

theorem nums_arg {r : Reach} {b0 : Nat} {v : Value} {d : DataW H} {p : List MemPlace} (hv : Value.okWide Try.prog W r b0 22 v) (h : DataW.Trod enc Try.prog W 0 sp true 22 v d p) : ∃ ns, NumsA W v ns := by
  obtain ⟨a0, len0, cap0, rfl⟩ := okWide_slice Try.underlying22 hv
  obtain ⟨fuel, hf⟩ := h
  rcases open_ints Try.underlying22 Try.underlying3 cells3 hf with ⟨h1, _⟩ | ⟨a, len, cap, zs, h1, _, h2, h3, h4, _, h5, h6⟩
  · have h1 : Value.slice a0 len0 cap0 = .slice none 0 0 := by simpa [Value.cells] using h1
    rw [h1]
    exact ⟨[], ⟨none, 0, rfl, fun k hk => by simp at hk⟩, (fun _ g hg => by cases hg), by simp [maxLen], (fun n hn => by cases hn)⟩
  · have hle : len ≤ zs.length := by rw [h4]; split <;> omega
    have h1 : Value.slice a0 len0 cap0 = .slice (some a) len cap := by simpa [Value.cells] using h1
    rw [h1]
    have hz : (zs.take len).length = len := by rw [List.length_take]; omega
    have hc0 : 0 < len → ∃ b off, a = ⟨b, off, none⟩ ∧ b < W.heap.size := fun h0 => by
      have hc := h5 0 (by omega)
      obtain ⟨b, off, spot⟩ := a
      have hspot : spot = none := by simpa [Addr.add] using World.cell?_spot hc
      subst hspot
      exact ⟨b, off, rfl, World.block_lt_of_cell? W _ (by simpa [Addr.add] using hc)⟩
    refine ⟨zs.take len, ⟨some a, cap, by rw [hz], fun k hk => ?_⟩, fun h0 g hg => ?_, by rw [hz]; omega, fun n hn => lit_wf (h6 n (List.mem_of_mem_take hn))⟩
    · rw [hz] at hk
      obtain ⟨b, off, rfl, hb⟩ := hc0 (by omega)
      refine ⟨b, off, rfl, ?_⟩
      have := h5 k (by omega)
      rw [List.getElem_take]
      have e : zs.getD k 0 = zs[k]'(by omega) := by rw [List.getD_eq_getElem?_getD, List.getElem?_eq_getElem (by omega)]; rfl
      rw [e] at this
      by_cases hk0 : k = 0
      · subst hk0; simpa [Addr.add] using this
      · simpa [Addr.add, hk0] using this
    · rw [hz] at h0
      obtain ⟨b, off, rfl, hb⟩ := hc0 h0
      have : b = g := by simpa [Value.ownBlock] using hg
      omega

theorem op_cells43 {fuel : Nat} {cs : List Value} {y : DataW H × List MemPlace} (h : DataW.trod enc Try.prog W 0 sp true fuel 43 cs = some y) :
    ∃ o : OpT, cs = o.cells ∧ wf64 o.id := by
  obtain ⟨xs, n, _, _, hcl, hlen, hg⟩ := DataW.trod_struct Try.underlying43 h
  rw [cells43] at hcl
  match cs, hcl with
  | [c0, c1, c2], _ =>
    have some_ : ∀ i, i < 3 → (xs[i]?).isSome = true := fun i hi => by
      have : xs.length = 3 := hlen
      simp [this, hi]
    obtain ⟨n0, rfl, w0⟩ := int_cell (by simpa [cells3] using hg 0 _ rfl) (some_ 0 (by omega))
    obtain ⟨n1, rfl, w1⟩ := int_cell (by simpa [cells3] using hg 1 _ rfl) (some_ 1 (by omega))
    obtain ⟨n2, rfl, w2⟩ := int_cell (by simpa [cells3] using hg 2 _ rfl) (some_ 2 (by omega))
    exact ⟨⟨n0, n1, n2⟩, rfl, w1⟩

theorem script_arg {r : Reach} {b0 : Nat} {v : Value} {d : DataW H} {p : List MemPlace} (hv : Value.okWide Try.prog W r b0 36 v) (h : DataW.Trod enc Try.prog W 0 sp true 36 v d p) :
    ∃ A l cap, v = .slice A (List.length l) cap ∧ OpsT W W.heap.size A l ∧ l.length ≤ maxLen := by
  obtain ⟨a0, len, cap, rfl⟩ := okWide_slice Try.underlying36 hv
  obtain ⟨fuel, h⟩ := h
  rcases open_slice Try.underlying36 h with ⟨h1, _⟩ | ⟨a, len, cap, m, n, D, Pl, h1, _, h2, h3, hm, _, h5⟩
  · exact ⟨none, [], 0, by simpa [Value.cells] using h1, ⟨fun k hk => by simp at hk, by simp⟩, by simp [maxLen]⟩
  · have hlm : len ≤ m := by rw [hm]; split <;> omega
    rw [cells43] at h5
    obtain ⟨f, hf⟩ := choose_lt (α := OpT) (p := fun i o => (∀ j u, o.cells[j]? = some u → W.cell? ((a.add (i * 3)).add j) = some u) ∧ wf64 o.id) (n := m) (fun i hi => by
      obtain ⟨cs', hc, ht⟩ := h5 i hi
      obtain ⟨o, rfl, hw⟩ := op_cells43 ht
      obtain ⟨_, _, hcell⟩ := World.cells?_some hc
      refine ⟨o, fun j u hu => ?_, hw⟩
      have hj : j < 3 := by
        have := (List.getElem?_eq_some_iff.mp hu).1
        exact this
      rw [hcell j hj]
      simpa using hu)
    refine ⟨some a, (List.range len).map f, cap, by simpa [Value.cells] using h1, ⟨fun k hk => ?_, ?_⟩, by simp; omega⟩
    · simp only [List.length_map, List.length_range] at hk
      have h0 := (hf 0 (by omega)).1 0 _ rfl
      obtain ⟨b, off, spot⟩ := a
      have hspot : spot = none := by simpa [Addr.add] using World.cell?_spot h0
      subst hspot
      refine ⟨b, off, rfl, World.block_lt_of_cell? W _ (by simpa [Addr.add] using h0), fun j u hu => ?_⟩
      simp only [List.getElem_map, List.getElem_range] at hu
      have := (hf k (by omega)).1 j u hu
      by_cases hk0 : k = 0
      · subst hk0
        by_cases hj0 : j = 0
        · subst hj0; simpa [Addr.add] using this
        · simpa [Addr.add, hj0] using this
      · have hk1 : k * 3 ≠ 0 := by omega
        by_cases hj0 : j = 0
        · subst hj0; simpa [Addr.add, hk1] using this
        · simpa [Addr.add, hk1, hj0] using this
    · intro o ho
      obtain ⟨i, hi, rfl⟩ := List.mem_map.mp ho
      rw [List.mem_range] at hi
      exact (hf i (by omega)).2
end

end Go.Proofs.Ytdlpiaglgdafoaa
