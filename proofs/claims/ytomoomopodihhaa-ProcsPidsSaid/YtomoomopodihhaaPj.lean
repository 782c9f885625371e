/-
  The table's pids, sorted.
-/
import Derived.Test.YtomoomopodihhaaPi
namespace Go.Proofs.Ytomoomopodihhaa
open Go.RowKit Go.Maps Go.Sort Go.Shelf

theorem sorted_uniq : ∀ {A B : List Int}, A.Pairwise (fun x y => x ≤ y) → B.Pairwise (fun x y => x ≤ y) → A.Perm B → A = B
  | [], B, _, _, hp => (List.nil_perm.1 hp).symm
  | x :: r, [], _, _, hp => by cases hp.length_eq
  | x :: r, y :: r', h, h', hp => by
    have h1 := List.pairwise_cons.1 h
    have h2 := List.pairwise_cons.1 h'
    have e : x = y := by
      rcases List.mem_cons.1 (hp.mem_iff.1 List.mem_cons_self) with e | hx
      · exact e
      · rcases List.mem_cons.1 (hp.mem_iff.2 (List.mem_cons_self (a := y))) with e | hy
        · exact e.symm
        · exact Int.le_antisymm (h1.1 y hy) (h2.1 x hx)
    subst e
    rw [sorted_uniq h1.2 h2.2 hp.cons_inv]

theorem sort_pids {ss P : List Int} (h : ss.Perm P) (hP : P.Pairwise fun x y => x < y) : ss.mergeSort (fun x y => decide (x ≤ y)) = P := by
  refine sorted_uniq ?_ (hP.imp fun h => Int.le_of_lt h) ((List.mergeSort_perm ss _).trans h)
  have := List.pairwise_mergeSort (le := fun x y : Int => decide (x ≤ y)) (fun a b c h1 h2 => by simp only [decide_eq_true_eq] at *; omega) (fun a b => by simp only [Bool.or_eq_true, decide_eq_true_eq]; omega) ss
  exact this.imp fun h => by simpa using h

def KeysPost (w : World) (M : List ProcE) (e : Ending) (w' : World) : Prop := ∃ v, e = .returned v ∧ w'.ownsRow w.heap.size 3 1 v (M.map fun e => e.t.pid).length (rowI (M.map fun e => e.t.pid)) ∧ Fr (fun _ => False) w w'

theorem keys55_any (mb : Option Nat) (W : World) : Calls Try.prog 55 #[.map mb] W fun e w' => e = .returned (.func (.func 67) #[] #[.pointer (some ⟨W.heap.size, 0, none⟩)]) ∧ w' = W.alloc (.cells #[.map mb] 86) :=
  (callsIn_wide (n := 5)).1 (AnyZI.keys_in Try.keysJ Fence.wide 5 trivial rfl mb W)

set_option maxHeartbeats 1000000 in
theorem sorted48_any (w : World) (t m : Nat) (M : List ProcE) (last : Int) (h : TabAt w t m M last) :
    Calls Try.prog 48 #[.func (.func 67) #[] #[.pointer (some ⟨w.heap.size, 0, none⟩)]] (w.alloc (.cells #[.map (some m)] 86)) (KeysPost (w.alloc (.cells #[.map (some m)] 86)) M) := by
  obtain ⟨D0, hown, hperm⟩ := own_of_map h.map
  have hlen := h.le
  have hsz : Maps.size D0 ≤ 1000000 := by
    have hl := hperm.length_eq
    obtain ⟨es, clock, _, _, _, hD⟩ := hown
    subst hD
    simp only [intKeys, List.length_map] at hl
    simp only [Maps.size]
    omega
  have hbl := hown.lt
  have hmax : Maps.size D0 ≤ maxLen := by unfold maxLen; omega
  have hbytes : Maps.size D0 * 8 ≤ 140737488355328 := by omega
  have hseq : SeqGives Fence.wide 2 Try.prog 67 #[.pointer (some ⟨w.heap.size, 0, none⟩)] encZ (fun ss => ss.Perm (intKeys D0)) (Maps.size D0) (w.alloc (.cells #[.map (some m)] 86)) :=
    AnyZI.keys_gives (ρ := Try.keysJ_ren) { Try.keysJ with } Fence.wide _ trivial rfl (by omega) w.heap.size m _ D0 _ (by simp) (by simp) (by
      obtain ⟨es, clock, hb, Ft, hs, hD⟩ := hown
      exact ⟨es, clock, (Below.heap_alloc _ _ m hbl).trans hb, Ft, hs, hD⟩)
  have cS := AnyZI.sorted_in Try.sortedJ Fence.wide 5 trivial trivial trivial trivial rfl (by omega) (sortsJ _) (enters_of Try.func63 (by kernel_rfl) rfl) 67 #[.pointer (some ⟨w.heap.size, 0, none⟩)] trivial (enters_of Try.func67 (by kernel_rfl) rfl) _ _ hmax hbytes _ hseq
  change CallsIn _ _ Try.prog 48 _ _ _ at cS
  refine ((callsIn_wide (n := 5)).1 cS).mono ?_
  rintro e w' ⟨v, ss, rfl, hS, hrow, hnil, hb⟩
  rw [List.map_map] at hperm
  have hp2 : ss.Perm (M.map fun e => e.t.pid) := hS.trans hperm
  have hsrt := sort_pids hp2 (by rw [List.pairwise_map]; exact h.srt)
  rw [hsrt, hp2.length_eq] at hrow
  exact ⟨v, rfl, hrow, Fr.of_below hb⟩

end Go.Proofs.Ytomoomopodihhaa
