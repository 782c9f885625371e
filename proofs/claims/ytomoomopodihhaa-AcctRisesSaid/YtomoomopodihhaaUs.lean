/-
  A law's argument that is a list of uses.
-/
import Derived.Test.YtomoomopodihhaaArgs
namespace Go.Proofs.Ytomoomopodihhaa
open Go.ChangeShapes Go.WideShapes Go.ChangeAt Go.RowKit Go.Deep

instance : Inhabited UseD := ⟨⟨0, 0, 0, 0⟩⟩

/-- A list of uses lies behind an address below block B. -/
structure Uses (w : World) (B : Nat) (A : Option Addr) (l : List UseD) : Prop where
  at_ : ∀ k (hk : k < l.length), ∃ b off, A = some ⟨b, off, none⟩ ∧ b < B ∧ ∀ j u, (l[k]'hk).cells[j]? = some u → w.cell? ⟨b, off + k * 4 + j, none⟩ = some u
  wf : ∀ o ∈ l, o.wf

theorem Uses.below {w w' : World} {B : Nat} {A : Option Addr} {l : List UseD} (h : Uses w B A l) (hb : Below B w w') : Uses w' B A l where
  at_ k hk := by
    obtain ⟨b, off, rfl, hB, hc⟩ := h.at_ k hk
    exact ⟨b, off, rfl, hB, fun j u hu => (hb.cell (p := ⟨b, off + k * 4 + j, none⟩) hB).trans (hc j u hu)⟩
  wf := h.wf

section
variable {H : Type} {enc : TypeId × Value → H} {W : World} {sp : Nat → Bool}

set_option maxRecDepth 100000 in
theorem uses_cells {fuel : Nat} {cs : List Value} {y : DataW H × List MemPlace} (h : DataW.trod enc Try.prog W 0 sp true fuel 33 cs = some y) :
    ∃ A l cap, cs = [.slice A (List.length l) cap] ∧ Uses W W.heap.size A l ∧ l.length ≤ maxLen := by
  rcases open_slice Try.underlying33 h with ⟨h1, _⟩ | ⟨a, len, cap, m, n, D, Pl, h1, _, h2, h3, hm, _, h5⟩
  · exact ⟨none, [], 0, by simpa using h1, ⟨fun k hk => by simp at hk, by simp⟩, by simp [maxLen]⟩
  · have hlm : len ≤ m := by rw [hm]; split <;> omega
    rw [cells23] at h5
    obtain ⟨f, hf⟩ := choose_lt (α := UseD) (p := fun i o => (∀ j u, o.cells[j]? = some u → W.cell? ((a.add (i * 4)).add j) = some u) ∧ o.wf) (n := m) (fun i hi => by
      obtain ⟨cs', hc, ht⟩ := h5 i hi
      obtain ⟨o, rfl, hw⟩ := use_cells ht
      obtain ⟨_, _, hcell⟩ := World.cells?_some hc
      refine ⟨o, fun j u hu => ?_, hw⟩
      have hj : j < 4 := by
        have := (Array.getElem?_eq_some_iff.mp hu).1
        exact this
      rw [hcell j hj]
      simpa using hu)
    refine ⟨some a, (List.range len).map f, cap, by simpa using h1, ⟨fun k hk => ?_, ?_⟩, by simp; omega⟩
    · simp only [List.length_map, List.length_range] at hk
      have h0 := (hf 0 (by omega)).1 0 _ rfl
      obtain ⟨b, off, spot⟩ := a
      have hspot : spot = none := by simpa [Addr.add] using World.cell?_spot h0
      subst hspot
      refine ⟨b, off, rfl, World.block_lt_of_cell? W _ (by simpa [Addr.add] using h0), fun j u hu => ?_⟩
      simp only [List.getElem_map, List.getElem_range] at hu
      have := (hf k (by omega)).1 j u hu
      by_cases hk0 : k = 0
      · subst hk0
        by_cases hj0 : j = 0
        · subst hj0; simpa [Addr.add] using this
        · simpa [Addr.add, hj0] using this
      · have hk1 : k * 4 ≠ 0 := by omega
        by_cases hj0 : j = 0
        · subst hj0; simpa [Addr.add, hk1] using this
        · simpa [Addr.add, hk1, hj0] using this
    · intro o ho
      obtain ⟨i, hi, rfl⟩ := List.mem_map.mp ho
      rw [List.mem_range] at hi
      exact (hf i (by omega)).2

set_option maxRecDepth 100000 in
theorem uses_arg {r : Reach} {b0 : Nat} {v : Value} {d : DataW H} {p : List MemPlace} (hv : Value.okWide Try.prog W r b0 33 v) (h : DataW.Trod enc Try.prog W 0 sp true 33 v d p) :
    ∃ A l cap, v = .slice A (List.length l) cap ∧ Uses W W.heap.size A l ∧ l.length ≤ maxLen := by
  obtain ⟨a0, len, cap, rfl⟩ := okWide_slice Try.underlying33 hv
  obtain ⟨fuel, hf⟩ := h
  obtain ⟨A, l, cap', h1, h2⟩ := uses_cells hf
  exact ⟨A, l, cap', by simpa [Value.cells] using h1, h2⟩
end

end Go.Proofs.Ytomoomopodihhaa
