/-
  The arguments that hold masks, opened.
-/
import Derived.Test.YtcefadbnmpjeiaaArgs
import Derived.Test.YtcefadbnmpjeiaaJ
import Derived.Laws.IdiomArrays
namespace Go.Proofs.Ytcefadbnmpjeiaa
open Go.ChangeShapes Go.WideShapes Go.ChangeAt Go.RowKit Go.Deep

theorem mask_of4 {a0 a1 a2 a3 : Nat} (h0 : a0 < 18446744073709551616) (h1 : a1 < 18446744073709551616) (h2 : a2 < 18446744073709551616) (h3 : a3 < 18446744073709551616) :
    ∃ M, M < 2 ^ 256 ∧ wordM M 0 = a0 ∧ wordM M 1 = a1 ∧ wordM M 2 = a2 ∧ wordM M 3 = a3 := by
  refine ⟨a0 + 2 ^ 64 * (a1 + 2 ^ 64 * (a2 + 2 ^ 64 * a3)), ?_, ?_, ?_, ?_, ?_⟩
  · omega
  · unfold wordM; simp only [Nat.reduceMul, Nat.reducePow]; omega
  · unfold wordM; simp only [Nat.reduceMul, Nat.reducePow]; omega
  · unfold wordM; simp only [Nat.reduceMul, Nat.reducePow]; omega
  · unfold wordM; simp only [Nat.reduceMul, Nat.reducePow]; omega

theorem cells31 : Try.prog.cellsOf 31 = 1 := by kernel_rfl
theorem cells40 : Try.prog.cellsOf 40 = 4 := by kernel_rfl
theorem cells45 : Try.prog.cellsOf 45 = 7 := by kernel_rfl

section
variable {H : Type} {enc : TypeId × Value → H} {W : World} {sp : Nat → Bool}

theorem word_cell {fuel : Nat} {c : Value} {y : DataW H × List MemPlace} (h : DataW.trod enc Try.prog W 0 sp true fuel 31 [c] = some y) : ∃ n : Nat, c = .int .u64 (n : Nat) ∧ n < 18446744073709551616 := by
  obtain ⟨n, h1, _, h3⟩ := DataW.trod_int Try.underlying31 h
  have hb := lit_wfu h3
  refine ⟨n.toNat, ?_, by omega⟩
  rw [show ((n.toNat : Nat) : Int) = n by omega]
  simpa using h1

set_option maxRecDepth 100000 in
theorem mask_cells {fuel : Nat} {c0 c1 c2 c3 : Value} {y : DataW H × List MemPlace} (h : DataW.trod enc Try.prog W 0 sp true fuel 40 [c0, c1, c2, c3] = some y) :
    ∃ M, M < 2 ^ 256 ∧ c0 = .int .u64 (wordM M 0 : Nat) ∧ c1 = .int .u64 (wordM M 1 : Nat) ∧ c2 = .int .u64 (wordM M 2 : Nat) ∧ c3 = .int .u64 (wordM M 3 : Nat) := by
  obtain ⟨_, _, _, _, n, _, g0, g1, g2, g3⟩ := trod_array4 Try.underlying40 cells31 h
  obtain ⟨n0, rfl, w0⟩ := word_cell g0
  obtain ⟨n1, rfl, w1⟩ := word_cell g1
  obtain ⟨n2, rfl, w2⟩ := word_cell g2
  obtain ⟨n3, rfl, w3⟩ := word_cell g3
  obtain ⟨M, hM, rfl, rfl, rfl, rfl⟩ := mask_of4 w0 w1 w2 w3
  exact ⟨M, hM, rfl, rfl, rfl, rfl⟩

set_option maxRecDepth 100000 in
theorem bits_arg {r : Reach} {b0 : Nat} {v : Value} {d : DataW H} {p : List MemPlace} (hv : Value.okWide Try.prog W r b0 40 v) (h : DataW.Trod enc Try.prog W 0 sp true 40 v d p) :
    ∃ M, M < 2 ^ 256 ∧ v = valM M := by
  obtain ⟨cs, rfl, _⟩ : ∃ cs, v = .agg cs ∧ cs.size = Try.prog.cellsOf 40 := by
    unfold Value.okWide at hv
    rw [Try.underlying40] at hv
    obtain ⟨cs, h1, h2, _⟩ := hv
    exact ⟨cs, h1, h2⟩
  obtain ⟨fuel, hf⟩ := h
  obtain ⟨_, _, _, _, hcl, _, _⟩ := DataW.trod_array Try.underlying40 hf
  rw [cells40] at hcl
  have hf' : DataW.trod enc Try.prog W 0 sp true fuel 40 cs.toList = some (d, p) := hf
  have hcl' : cs.toList.length = 4 := hcl
  obtain ⟨l⟩ := cs
  match l, hcl' with
  | [c0, c1, c2, c3], _ =>
    obtain ⟨M, hM, rfl, rfl, rfl, rfl⟩ := mask_cells hf'
    exact ⟨M, hM, rfl⟩

set_option maxRecDepth 100000 in
theorem wish_arg {r : Reach} {b0 : Nat} {v : Value} {d : DataW H} {p : List MemPlace} (hv : Value.okWide Try.prog W r b0 45 v) (h : DataW.Trod enc Try.prog W 0 sp true 45 v d p) :
    ∃ x : WishD, v = x.val ∧ x.free < 2 ^ 256 ∧ wf64 x.ranks ∧ wf64 x.per ∧ wf64 x.dist := by
  obtain ⟨cs, rfl, _⟩ := okWide_struct Try.underlying45 hv
  obtain ⟨fuel, hf⟩ := h
  have hf' : DataW.trod enc Try.prog W 0 sp true fuel 45 cs.toList = some (d, p) := hf
  obtain ⟨xs, n, _, _, hcl, hlen, hg⟩ := DataW.trod_struct Try.underlying45 hf'
  rw [cells45] at hcl
  obtain ⟨l⟩ := cs
  match l, hcl with
  | [c0, c1, c2, c3, c4, c5, c6], _ =>
    have some_ : ∀ i, i < 4 → ∃ y, xs[i]? = some y := fun i hi => by
      have : xs.length = 4 := hlen
      exact ⟨xs[i], List.getElem?_eq_getElem (by omega)⟩
    obtain ⟨y0, e0⟩ := some_ 0 (by omega)
    obtain ⟨M, hM, rfl, rfl, rfl, rfl⟩ := mask_cells (c0 := c0) (c1 := c1) (c2 := c2) (c3 := c3) (by simpa [cells40, e0] using hg 0 _ rfl)
    obtain ⟨n1, rfl, w1⟩ := int_cell (c := c4) (by simpa [cells3] using hg 1 _ rfl) (by obtain ⟨y, e⟩ := some_ 1 (by omega); rw [e]; rfl)
    obtain ⟨n2, rfl, w2⟩ := int_cell (c := c5) (by simpa [cells3] using hg 2 _ rfl) (by obtain ⟨y, e⟩ := some_ 2 (by omega); rw [e]; rfl)
    obtain ⟨n3, rfl, w3⟩ := int_cell (c := c6) (by simpa [cells3] using hg 3 _ rfl) (by obtain ⟨y, e⟩ := some_ 3 (by omega); rw [e]; rfl)
    exact ⟨⟨M, n1, n2, n3⟩, rfl, hM, w1, w2, w3⟩
end

end Go.Proofs.Ytcefadbnmpjeiaa
