/-
  The reference's table: that its calls end.
-/
import Derived.Test.YtomoomopodihhaaPk
namespace Go.Proofs.Ytomoomopodihhaa
open Go.RowKit Go.Maps

structure RTab (w : World) (k : Nat) (lv sv : Value) (N : Int) (T : List TaskD) (G : List Int) : Prop where
  blk : Blk w k 58 #[lv, sv, .int .i64 N]
  row : w.ownsRow 0 61 8 lv T.length (T.flatMap TaskD.cells)
  sig : w.ownsRow 0 3 1 sv G.length (rowI G)
  len : G.length = T.length
  cor : ∀ x ∈ T, w.ownsRow 0 3 1 x.cv x.ns.length (rowI x.ns)
  nl : ∀ x ∈ T, x.ns.length ≤ 100000
  sep : ∀ x ∈ T, ∀ g, x.cv.ownBlock = some g → sv.ownBlock ≠ some g

def ownR (k : Nat) (lv sv : Value) (T : List TaskD) (i : Nat) : Prop := i = k ∨ lv.ownBlock = some i ∨ sv.ownBlock = some i ∨ ∃ x ∈ T, x.cv.ownBlock = some i

section
variable {S : Nat → Prop} {w w' : World} {k : Nat} {lv sv : Value} {N : Int} {T : List TaskD} {G : List Int}
theorem RTab.fr (h : RTab w k lv sv N T G) (hf : Fr S w w') (hs : ∀ i, ownR k lv sv T i → ¬ S i) : RTab w' k lv sv N T G where
  blk := h.blk.fr hf (hs _ (Or.inl rfl))
  row := ownsRow_fr h.row hf (fun i hi => hs i (Or.inr (Or.inl hi)))
  sig := ownsRow_fr h.sig hf (fun i hi => hs i (Or.inr (Or.inr (Or.inl hi))))
  len := h.len
  cor x hx := ownsRow_fr (h.cor x hx) hf (fun i hi => hs i (Or.inr (Or.inr (Or.inr ⟨x, hx, hi⟩))))
  nl := h.nl
  sep := h.sep
theorem RTab.fr0 (h : RTab w k lv sv N T G) (hf : Fr (fun _ => False) w w') : RTab w' k lv sv N T G := h.fr hf (fun _ _ h => h)
theorem RTab.lt (h : RTab w k lv sv N T G) {i : Nat} (hi : ownR k lv sv T i) : i < w.heap.size := by
  rcases hi with rfl | h1 | h1 | ⟨x, hx, h1⟩
  · exact h.blk.lt
  · exact (h.row.lt i h1).2
  · exact (h.sig.lt i h1).2
  · exact ((h.cor x hx).lt i h1).2
end

/-- The reference's table at k, of at most n tasks, in the blocks Y. -/
def RT (w : World) (k n : Nat) (Y : Nat → Prop) : Prop := ∃ lv sv N T G, RTab w k lv sv N T G ∧ T.length ≤ n ∧ 0 ≤ N ∧ N ≤ n ∧ Y = ownR k lv sv T

/-- A task's cell in a row. -/
theorem task_cell {w : World} {lv : Value} {T : List TaskD} (h : w.ownsRow 0 61 8 lv T.length (T.flatMap TaskD.cells)) {i : Nat} (hi : i < T.length) :
    ∃ g cap, lv = .slice (some ⟨g, 0, none⟩) T.length cap ∧ ∀ j u, j < 8 → ((T[i]'hi).cells)[j]? = some u → w.cell? ⟨g, i * 8 + j, none⟩ = some u :=
  row_elem TaskD.cells TaskD.cells_len h hi

set_option maxHeartbeats 1000000 in
theorem at66_any (w : World) (k : Nat) (lv sv : Value) (N : Int) (T : List TaskD) (G : List Int) (h : RTab w k lv sv N T G) (hl : T.length ≤ 100000) (pid : Int) :
    Calls Try.prog 66 #[.pointer (some ⟨k, 0, none⟩), .int .i64 pid] w fun e w' => Fr (fun _ => False) w w' ∧ (e = .returned (.int .i64 (-1)) ∨ ∃ i : Nat, i < T.length ∧ e = .returned (.int .i64 i)) := by
  have HR := Lib.hid h
  obtain ⟨A, cap, rfl⟩ := row_shape h.row
  clear h
  go_enter Try.func66, Try.ntmps66
  go_wp2_with fail
  go_loopw [5] (fun i wr => ∃ j : Nat, j ≤ T.length ∧ i = .int .i64 j ∧ Fr (fun _ => False) w wr) (fun i _ => T.length - (intOf i).toNat)
  case atStart => exact ⟨0, Nat.zero_le _, rfl, Fr.refl _ _⟩
  case round =>
    obtain ⟨j, hj, rfl, hf⟩ := hrel
    have hr := HR.out.fr0 hf
    have c0 : wr.cell? ⟨k, 0, none⟩ = some (.slice A T.length cap) := hr.blk.cell 0
    by_cases hlt : j < T.length
    · obtain ⟨g, cp, hv, hc⟩ := task_cell hr.row hlt
      cases hv
      have c1 := hc 0 _ (by omega) rfl
      simp only [Nat.add_zero] at c1
      generalize (T[j]'hlt).pid = p at *
      clear hr hc
      cases hx : (p == pid) with
      | true =>
        go_wp2
        go_ret
        exact ⟨hf, Or.inr ⟨j, hlt, rfl⟩⟩
      | false =>
        go_wp2
        go_roundw
        case rel => exact ⟨j + 1, by omega, by go_num, hf⟩
        case measure => simp [intOf]; omega
    · obtain rfl : j = T.length := by omega
      clear hr
      go_wp2
      go_ret
      exact ⟨hf, Or.inl rfl⟩

end Go.Proofs.Ytomoomopodihhaa
