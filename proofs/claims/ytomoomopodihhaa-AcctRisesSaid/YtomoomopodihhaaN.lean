/-
  Jobs: the book's jobs, sorted.
-/
import Derived.Test.YtomoomopodihhaaK
namespace Go.Proofs.Ytomoomopodihhaa
open Go.RowKit Go.Maps Go.Sort Go.Shelf

set_option maxHeartbeats 1000000 in
theorem jobs30_any (w : World) (b m : Nat) (M : List (Int × Int)) (h : BookAt w b m M) :
    Calls Try.prog 30 #[.pointer (some ⟨b, 0, none⟩)] w fun e w' => ∃ (v : Value) (ss : List Int), e = .returned v ∧ ss.Perm (M.map (·.1)) ∧
      w'.ownsRow w.heap.size 3 1 v ss.length ((ss.mergeSort (fun x y => decide (x ≤ y))).map encZ) ∧ (v = .slice none 0 0 ↔ ss = []) ∧ Below w.heap.size w w' := by
  have c0 : w.cell? ⟨b, 0, none⟩ = some (.map (some m)) := h.blk.cell 0
  obtain ⟨D0, hown, hperm⟩ := own_of_map h.map
  have hlen := h.len
  have hsz : Maps.size D0 ≤ 1000000 := by
    have hl := hperm.length_eq
    obtain ⟨es, clock, _, _, _, hD⟩ := hown
    subst hD
    simp only [intKeys, List.length_map] at hl
    simp only [Maps.size]
    omega
  have hbl := hown.lt
  have hmax : Maps.size D0 ≤ maxLen := by unfold maxLen; omega
  have hbytes : Maps.size D0 * 8 ≤ 140737488355328 := by omega
  refine (callsIn_wide (n := 6)).1 ?_
  have hseq : SeqGives Fence.wide 2 Try.prog 64 #[.pointer (some ⟨w.heap.size, 0, none⟩)] encZ (fun ss => ss.Perm (intKeys D0)) (Maps.size D0) (w.alloc (.cells #[.map (some m)] 75)) :=
    AnyZI.keys_gives (ρ := Try.keysJ_ren) { Try.keysJ with } Fence.wide _ trivial rfl (by omega) w.heap.size m _ D0 _ (by simp) (by simp) (by
      obtain ⟨es, clock, hb, Ft, hs, hD⟩ := hown
      exact ⟨es, clock, (Below.heap_alloc _ _ m hbl).trans hb, Ft, hs, hD⟩)
  have cK : ∀ mb W, CallsIn Fence.wide 5 Try.prog 49 #[.map mb] W fun e w' => e = .returned (.func (.func 64) #[] #[.pointer (some ⟨W.heap.size, 0, none⟩)]) ∧ w' = W.alloc (.cells #[.map mb] 75) := fun mb W => AnyZI.keys_in Try.keysJ Fence.wide 5 trivial rfl mb W
  have cS := AnyZI.sorted_in Try.sortedJ Fence.wide 5 trivial trivial trivial trivial rfl (by omega) (sortsJ _) (enters_of Try.func63 (by kernel_rfl) rfl) 64 #[.pointer (some ⟨w.heap.size, 0, none⟩)] trivial (enters_of Try.func64 (by kernel_rfl) rfl) _ _ hmax hbytes _ hseq
  change CallsIn _ _ Try.prog 48 _ _ _ at cS
  have hfK : Fence.wide.fn 49 := trivial
  have hfS : Fence.wide.fn 48 := trivial
  refine callsIn_of_wp Try.func30 rfl trivial ?_ rfl
  simp only [Try.ntmps30, List.size_toArray, List.length_cons, List.length_nil, Nat.reduceAdd, Nat.reduceSub, Array.replicate_succ, Array.replicate_zero, List.push_toArray, List.append_toArray, List.nil_append, List.cons_append]
  gi_wp2_with (first
    | (gi_at_call 49; refine (cK _ _).mono ?_; rintro e w' ⟨rfl, rfl⟩)
    | (gi_at_call 48; refine cS.mono ?_; rintro e w' ⟨v, ss, rfl, hS, hrow, hnil, hb⟩))
  go_ret
  rw [List.map_map] at hperm
  exact ⟨v, ss, rfl, hS.trans hperm, ownsRow_base_a hrow (by simp), hnil, ((RowKit.Below.refl _ w).alloc (Nat.le_refl _) _).trans (hb.mono (by simp))⟩

end Go.Proofs.Ytomoomopodihhaa
