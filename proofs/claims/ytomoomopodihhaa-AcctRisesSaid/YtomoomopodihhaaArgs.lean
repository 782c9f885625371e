/-
  The arguments of the laws, opened to what the walks ask.
-/
import Derived.Test.YtomoomopodihhaaLaw
import Derived.Test.YtomoomopodihhaaU
import Derived.Deep.Slices
namespace Go.Proofs.Ytomoomopodihhaa
open Go.ChangeShapes Go.WideShapes Go.ChangeAt Go.RowKit Go.Deep

theorem lit_wf {n : Int} (h : (Lit.int .i64 n).wf = true) : wf64 n := by
  simp [Lit.wf, IntKind.min, IntKind.max, IntKind.signed, IntKind.bits] at h
  exact h

theorem cells3 : Try.prog.cellsOf 3 = 1 := by kernel_rfl
theorem cells23 : Try.prog.cellsOf 23 = 4 := by kernel_rfl
theorem laidOut : laidOutB Try.prog = true := by kernel_rfl
theorem own : ownKnob Try.prog.godebug = none := by kernel_rfl

section
variable {H : Type} {enc : TypeId × Value → H} {W : World} {sp : Nat → Bool}

theorem int_cell {fuel : Nat} {c : Value} {y : Option (DataW H × List MemPlace)} (h : DataW.trod enc Try.prog W 0 sp true fuel 3 [c] = y) (hy : y.isSome = true) : ∃ n, c = .int .i64 n ∧ wf64 n := by
  obtain ⟨x, rfl⟩ := Option.isSome_iff_exists.1 hy
  obtain ⟨n, h1, _, h3⟩ := DataW.trod_int Try.underlying3 h
  exact ⟨n, by simpa using h1, lit_wf h3⟩

set_option maxRecDepth 100000 in
theorem use_cells {fuel : Nat} {cs : List Value} {y : DataW H × List MemPlace} (h : DataW.trod enc Try.prog W 0 sp true fuel 23 cs = some y) :
    ∃ x : UseD, cs = x.cells.toList ∧ x.wf := by
  obtain ⟨xs, n, _, _, hcl, hlen, hg⟩ := DataW.trod_struct Try.underlying23 h
  rw [cells23] at hcl
  match cs, hcl with
  | [c0, c1, c2, c3], _ =>
    have some_ : ∀ i, i < 4 → (xs[i]?).isSome = true := fun i hi => by
      have : xs.length = 4 := hlen
      simp [this, hi]
    obtain ⟨n0, rfl, w0⟩ := int_cell (by simpa [cells3] using hg 0 _ rfl) (some_ 0 (by omega))
    obtain ⟨n1, rfl, w1⟩ := int_cell (by simpa [cells3] using hg 1 _ rfl) (some_ 1 (by omega))
    obtain ⟨n2, rfl, w2⟩ := int_cell (by simpa [cells3] using hg 2 _ rfl) (some_ 2 (by omega))
    obtain ⟨n3, rfl, w3⟩ := int_cell (by simpa [cells3] using hg 3 _ rfl) (some_ 3 (by omega))
    exact ⟨⟨n0, n1, n2, n3⟩, rfl, ⟨w0, w1, w2, w3⟩⟩

set_option maxRecDepth 100000 in
theorem use_arg {r : Reach} {b0 : Nat} {v : Value} {d : DataW H} {p : List MemPlace} (hv : Value.okWide Try.prog W r b0 23 v) (h : DataW.Trod enc Try.prog W 0 sp true 23 v d p) :
    ∃ x : UseD, v = x.val ∧ x.wf := by
  obtain ⟨cs, rfl, _⟩ := okWide_struct Try.underlying23 hv
  obtain ⟨fuel, hf⟩ := h
  obtain ⟨x, h1, h2⟩ := use_cells hf
  refine ⟨x, ?_, h2⟩
  have : cs = x.cells := Array.toList_inj.1 (by simpa [Value.cells] using h1)
  rw [this]
  rfl
end

theorem Fr.below0 {w w' : World} (h : Fr (fun _ => False) w w') : Below w.heap.size w w' := h.below (Nat.le_refl _) (fun _ h => h.elim)

end Go.Proofs.Ytomoomopodihhaa
