/-
  From MapL to the shelf's word on maps.
-/
import Derived.Test.YtomoomopodihhaaJ
namespace Go.Proofs.Ytomoomopodihhaa
open Go.RowKit Go.Maps Go.Sort Go.Shelf

theorem own_of_map {P : Program} {k : TypeId} {w : World} {b : Nat} {L : List (Lit × Value)} (h : MapL P k w b L) :
    ∃ D0 : DataW Value, w.ownsMap P k rawR b L.length D0 ∧ (intKeys D0).Perm (L.map fun p => Go.intOf p.1) := by
  obtain ⟨es, clock, hb, F, hp⟩ := h
  have e1 : es.size = L.length := by simpa using hp.length_eq
  refine ⟨_, ⟨es, clock, hb, F, Nat.le_of_eq e1, rfl⟩, ?_⟩
  have h1 := ((WideShapes.sorted_perm _).trans hp).map (fun p : Lit × DataW Value => Go.intOf p.1)
  rw [List.map_map] at h1
  exact h1

end Go.Proofs.Ytomoomopodihhaa
