/-
  The arguments of the laws, opened to what the walks ask.
-/
import Derived.Test.YtclokfjcjpigpaaLaw
import Derived.Test.YtclokfjcjpigpaaF
import Derived.Deep.Slices
namespace Go.Proofs.Ytclokfjcjpigpaa
open Go.ChangeShapes Go.WideShapes Go.ChangeAt Go.RowKit Go.Deep

theorem lit_wf {n : Int} (h : (Lit.int .i64 n).wf = true) : wf64 n := by
  simp [Lit.wf, IntKind.min, IntKind.max, IntKind.signed, IntKind.bits] at h
  exact h

theorem cells29 : Try.prog.cellsOf 29 = 1 := by kernel_rfl
theorem cells31 : Try.prog.cellsOf 31 = 7 := by kernel_rfl
theorem cells33 : Try.prog.cellsOf 33 = 11 := by kernel_rfl

section
variable {H : Type} {enc : TypeId × Value → H} {W : World} {sp : Nat → Bool}

theorem int_cell {fuel : Nat} {c : Value} {y : Option (DataW H × List MemPlace)} (h : DataW.trod enc Try.prog W 0 sp true fuel 3 [c] = y) (hy : y.isSome = true) : ∃ n, c = .int .i64 n ∧ wf64 n := by
  obtain ⟨x, rfl⟩ := Option.isSome_iff_exists.1 hy
  obtain ⟨n, h1, _, h3⟩ := DataW.trod_int Try.underlying3 h
  exact ⟨n, by simpa using h1, lit_wf h3⟩

theorem ints_cell {fuel : Nat} {c : Value} {y : Option (DataW H × List MemPlace)} (h : DataW.trod enc Try.prog W 0 sp true fuel 29 [c] = y) (hy : y.isSome = true) :
    ∃ A ns cap, c = .slice A (List.length ns) cap ∧ Nums W W.heap.size A ns ∧ ns.length ≤ maxLen := by
  obtain ⟨x, rfl⟩ := Option.isSome_iff_exists.1 hy
  rcases open_ints Try.underlying29 Try.underlying3 cells3 h with ⟨h1, _⟩ | ⟨a, len, cap, zs, h1, _, h2, h3, h4, _, h5, _⟩
  · exact ⟨none, [], 0, by simpa using h1, fun k hk => by simp at hk, by simp [maxLen]⟩
  · have hle : len ≤ zs.length := by rw [h4]; split <;> omega
    refine ⟨some a, zs.take len, cap, by simpa [Nat.min_eq_left hle] using h1, fun k hk => ?_, by rw [List.length_take]; omega⟩
    have hk' : k < len := by rw [List.length_take] at hk; omega
    have hc := h5 k (by omega)
    refine ⟨a, rfl, ?_, ?_⟩
    · have := World.block_lt_of_cell? W _ hc
      rwa [block_of_add] at this
    · rw [hc]
      simp [hk']

theorem cred_cells {fuel : Nat} {cs : List Value} {y : DataW H × List MemPlace} (h : DataW.trod enc Try.prog W 0 sp true fuel 31 cs = some y) :
    ∃ x : CredD, cs = x.cells.toList ∧ x.wf ∧ Nums W W.heap.size x.A x.ns ∧ x.ns.length ≤ maxLen := by
  obtain ⟨xs, n, _, _, hcl, hlen, hg⟩ := DataW.trod_struct Try.underlying31 h
  rw [cells31] at hcl
  match cs, hcl with
  | [c0, c1, c2, c3, c4, c5, c6], _ =>
    have some_ : ∀ i, i < 7 → (xs[i]?).isSome = true := fun i hi => by
      have : xs.length = 7 := hlen
      simp [this, hi]
    obtain ⟨n0, rfl, w0⟩ := int_cell (by simpa [cells3] using hg 0 _ rfl) (some_ 0 (by omega))
    obtain ⟨n1, rfl, w1⟩ := int_cell (by simpa [cells3] using hg 1 _ rfl) (some_ 1 (by omega))
    obtain ⟨n2, rfl, w2⟩ := int_cell (by simpa [cells3] using hg 2 _ rfl) (some_ 2 (by omega))
    obtain ⟨n3, rfl, w3⟩ := int_cell (by simpa [cells3] using hg 3 _ rfl) (some_ 3 (by omega))
    obtain ⟨n4, rfl, w4⟩ := int_cell (by simpa [cells3] using hg 4 _ rfl) (some_ 4 (by omega))
    obtain ⟨A, ns, cap, rfl, hN, hm⟩ := ints_cell (by simpa [cells29] using hg 5 _ rfl) (some_ 5 (by omega))
    obtain ⟨n6, rfl, w6⟩ := int_cell (by simpa [cells3] using hg 6 _ rfl) (some_ 6 (by omega))
    exact ⟨⟨n0, n1, n2, n3, n4, A, cap, ns, n6⟩, rfl, ⟨w0, w1, w2, w3, w4, w6⟩, hN, hm⟩

theorem cred_arg {r : Reach} {b0 : Nat} {v : Value} {d : DataW H} {p : List MemPlace} (hv : Value.okWide Try.prog W r b0 31 v) (h : DataW.Trod enc Try.prog W 0 sp true 31 v d p) :
    ∃ x : CredD, v = x.val ∧ x.wf ∧ Nums W W.heap.size x.A x.ns ∧ x.ns.length ≤ maxLen := by
  obtain ⟨cs, rfl, _⟩ := okWide_struct Try.underlying31 hv
  obtain ⟨fuel, hf⟩ := h
  obtain ⟨x, h1, h2⟩ := cred_cells hf
  refine ⟨x, ?_, h2⟩
  have : cs = x.cells := Array.toList_inj.1 (by simpa [Value.cells] using h1)
  rw [this]
  rfl
end

end Go.Proofs.Ytclokfjcjpigpaa
