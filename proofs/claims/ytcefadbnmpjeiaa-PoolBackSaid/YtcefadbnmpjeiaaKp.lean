/-
  What a round of a range over a function keeps: every block below n0 but those of S.
-/
import Derived.Test.YtcefadbnmpjeiaaInts
import Derived.RangeFuncNested
import Derived.RangeFuncBound
import Derived.RangeFuncCalls
import Derived.RangeFuncLeaves
import Derived.Shelf.Abstract
import Derived.Shelf.RegionOpen
import Derived.OwnWalkIn
import Derived.TacticsInMore
import Derived.LoopNIn
import Derived.LoopIn
namespace Go.Proofs.Ytcefadbnmpjeiaa
open Go.RowKit Go.Maps

structure KpS (S : Nat → Prop) (n0 : Nat) (W W' : World) : Prop where
  size : W.heap.size ≤ W'.heap.size
  keep : ∀ k o, ¬ S k → k < n0 → W.heap[k]? = some o → W'.heap[k]? = some o

section
variable {S : Nat → Prop} {n0 : Nat} {W W' : World}
theorem kpS_t {X Y Z : World} (h : KpS S n0 X Y) (k : KpS S n0 Y Z) : KpS S n0 X Z :=
  ⟨Nat.le_trans h.size k.size, fun i o hi hc ho => k.keep i o hi hc (h.keep i o hi hc ho)⟩
theorem kpS_b {w : World} (hn : n0 ≤ w.heap.size) (W : World) (l : Nat) (o o' : Obj) (hl : w.heap.size ≤ l) (_ : W.heap[l]? = some o) (_ : o.isCells = false) (_ : o.isWalk = false) : KpS S n0 W (W.putObj l o') where
  size := by simp [World.putObj]
  keep := fun k u _ hu hk => by
    have hne : k ≠ l := by omega
    rw [World.putObj_heap_other hne]
    exact hk
theorem KpS.refl : KpS S n0 W W := ⟨Nat.le_refl _, fun _ _ _ _ h => h⟩
theorem KpS.fr {S' : Nat → Prop} (h : Fr S' W W') (hs : ∀ i, i < n0 → S' i → S i) : KpS S n0 W W' where
  size := h.size
  keep := fun k _ hk hn ho => h.heap ho (fun h' => hk (hs k hn h'))
theorem KpS.blk (h : KpS S n0 W W') {g : Nat} {t : TypeId} {cs : Array Value} (hg : ¬ S g) (hlt : g < n0) (hb : Blk W g t cs) : Blk W' g t cs := h.keep g _ hg hlt hb
end

/-- 'out = append(out, ..)' in a round, of a row that was laid since the loop began (n0), the variable's box B having been there. -/
theorem boxed_appendedK {W w1 : World} {n1 n0 B : Nat} {t e : TypeId} {size : Nat} {v v' : Value} {k m : Nat} {xs ys : List Value} {tmp : Obj}
    (hv : Boxed W B t v) (hte : t ≠ e) (hrow : W.ownsRow n0 e size v k xs) (hn : n1 ≤ n0) (hn0 : n0 ≤ W.heap.size) (hB : n1 ≤ B)
    (hown' : w1.ownsRow n0 e size v' m ys) (hgrow : (W.alloc tmp).grownBy w1 v.ownBlock) :
    Boxed w1 B t v ∧ Boxed (w1.setCell ⟨B, 0, none⟩ v') B t v' ∧ (w1.setCell ⟨B, 0, none⟩ v').ownsRow n0 e size v' m ys ∧ KeepsOthers W (w1.setCell ⟨B, 0, none⟩ v') ∧ Below n1 W (w1.setCell ⟨B, 0, none⟩ v') ∧ KpS (fun i => i = B) n0 W (w1.setCell ⟨B, 0, none⟩ v') := by
  obtain ⟨h1, h2, _, h4, h5⟩ := hv.appended hte (ownsRow_base_a' hrow hn) (Nat.le_trans hn hn0) hB (ownsRow_base_a' hown' hn) hgrow
  refine ⟨h1, h2, hown'.kept (grownBy_setCell' w1 B v') (.inr (h1.not_row hte hown').symm), h4, h5, ⟨h4.size, fun i o hi hlt ho => ?_⟩⟩
  have hne : some i ≠ v.ownBlock := fun e' => by have := (hrow.lt i e'.symm).1; omega
  have ha : i < W.heap.size := Nat.lt_of_lt_of_le hlt hn0
  refine (Below.heap_setCell w1 ⟨B, 0, none⟩ v' i hi).trans ((hgrow.block i (by simp; omega) hne).trans ((Below.heap_alloc W tmp i ha).trans ho))

theorem Fr.grownNone {w w' : World} (h : Fr (fun _ => False) w w') : w.grownBy w' none := ⟨h.os, h.tape, h.output, h.size, fun k hk _ => h.block k hk (fun h => h)⟩

end Go.Proofs.Ytcefadbnmpjeiaa
