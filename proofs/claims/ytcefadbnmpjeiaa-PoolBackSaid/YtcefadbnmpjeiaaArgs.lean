/-
  The arguments of the laws, opened to what the walks ask.
-/
import Derived.Test.YtcefadbnmpjeiaaLaw
import Derived.Test.YtcefadbnmpjeiaaN
import Derived.Deep.Slices
namespace Go.Proofs.Ytcefadbnmpjeiaa
open Go.ChangeShapes Go.WideShapes Go.ChangeAt Go.RowKit Go.Deep

theorem lit_wf {n : Int} (h : (Lit.int .i64 n).wf = true) : wf64 n := by
  simp [Lit.wf, IntKind.min, IntKind.max, IntKind.signed, IntKind.bits] at h
  exact h
theorem lit_wfu {n : Int} (h : (Lit.int .u64 n).wf = true) : 0 ≤ n ∧ n < 18446744073709551616 := by
  simp [Lit.wf, IntKind.min, IntKind.max, IntKind.signed, IntKind.bits] at h
  omega

theorem cells3 : Try.prog.cellsOf 3 = 1 := by kernel_rfl
theorem cells23 : Try.prog.cellsOf 23 = 2 := by kernel_rfl
theorem own : ownKnob Try.prog.godebug = none := by kernel_rfl
theorem laidOut : laidOutB Try.prog = true := by kernel_rfl

section
variable {H : Type} {enc : TypeId × Value → H} {W : World} {sp : Nat → Bool}

theorem int_cell {fuel : Nat} {c : Value} {y : Option (DataW H × List MemPlace)} (h : DataW.trod enc Try.prog W 0 sp true fuel 3 [c] = y) (hy : y.isSome = true) : ∃ n, c = .int .i64 n ∧ wf64 n := by
  obtain ⟨x, rfl⟩ := Option.isSome_iff_exists.1 hy
  obtain ⟨n, h1, _, h3⟩ := DataW.trod_int Try.underlying3 h
  exact ⟨n, by simpa using h1, lit_wf h3⟩

set_option maxRecDepth 100000 in
theorem lay_cells {fuel : Nat} {cs : List Value} {y : DataW H × List MemPlace} (h : DataW.trod enc Try.prog W 0 sp true fuel 23 cs = some y) :
    ∃ l : LayD, cs = [.int .i64 l.s, .int .i64 l.p] ∧ l.wf := by
  obtain ⟨xs, n, _, _, hcl, hlen, hg⟩ := DataW.trod_struct Try.underlying23 h
  rw [cells23] at hcl
  match cs, hcl with
  | [c0, c1], _ =>
    have some_ : ∀ i, i < 2 → (xs[i]?).isSome = true := fun i hi => by
      have : xs.length = 2 := hlen
      simp [this, hi]
    obtain ⟨n0, rfl, w0⟩ := int_cell (by simpa [cells3] using hg 0 _ rfl) (some_ 0 (by omega))
    obtain ⟨n1, rfl, w1⟩ := int_cell (by simpa [cells3] using hg 1 _ rfl) (some_ 1 (by omega))
    exact ⟨⟨n0, n1⟩, rfl, ⟨w0, w1⟩⟩

set_option maxRecDepth 100000 in
theorem lay_arg {r : Reach} {b0 : Nat} {v : Value} {d : DataW H} {p : List MemPlace} (hv : Value.okWide Try.prog W r b0 23 v) (h : DataW.Trod enc Try.prog W 0 sp true 23 v d p) :
    ∃ l : LayD, v = l.val ∧ l.wf := by
  obtain ⟨cs, rfl, _⟩ := okWide_struct Try.underlying23 hv
  obtain ⟨fuel, hf⟩ := h
  obtain ⟨l, h1, h2⟩ := lay_cells hf
  refine ⟨l, ?_, h2⟩
  have : cs = #[.int .i64 l.s, .int .i64 l.p] := Array.toList_inj.1 (by simpa [Value.cells] using h1)
  rw [this]
  rfl
end

theorem Fr.below0 {w w' : World} (h : Fr (fun _ => False) w w') : Below w.heap.size w w' := h.below (Nat.le_refl _) (fun _ h => h.elim)

theorem LayD.all_lt (l : LayD) : l.all < 2 ^ 256 := by
  unfold LayD.all
  have := l.count_bound
  have h1 : 2 ^ l.count.toNat ≤ 2 ^ 256 := Nat.pow_le_pow_right (by decide) (by omega)
  have h2 : 0 < 2 ^ l.count.toNat := Nat.pow_pos (by decide)
  omega

end Go.Proofs.Ytcefadbnmpjeiaa
