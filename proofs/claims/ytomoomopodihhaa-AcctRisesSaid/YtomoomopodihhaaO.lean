/-
  The book's rows: the iterator of All.
-/
import Derived.Test.YtomoomopodihhaaN
import Derived.Test.YtomoomopodihhaaRow
import Derived.RangeFuncNested
import Derived.RangeFuncBound
import Derived.RangeFuncCalls
import Derived.RangeFuncLeaves
import Derived.Shelf.Abstract
import Derived.Shelf.RegionOpen
import Derived.OwnWalkIn
import Derived.TacticsInMore
import Derived.LoopNIn
import Derived.LoopIn
namespace Go.Proofs.Ytomoomopodihhaa
open Go.RowKit Go.Maps Go.Sort Go.Shelf
attribute [local go_sem] Oper.semAt_some

/-- The book's jobs, rising. -/
def jobsS (M : List (Int × Int)) : List Int := (M.map (·.1)).mergeSort (fun x y => decide (x ≤ y))
/-- .. and what was added for each. -/
def rowsS (M : List (Int × Int)) : List (Int × Int) := (jobsS M).map fun j => (j, (findK M j).getD 0)
def allS (R : List (Int × Int)) : Int := R.foldl (fun s p => addS s p.2) 0

theorem sort_perm_eq {l l' : List Int} (h : l.Perm l') : l.mergeSort (fun x y => decide (x ≤ y)) = l'.mergeSort (fun x y => decide (x ≤ y)) := by
  have tr : ∀ a b c : Int, decide (a ≤ b) = true → decide (b ≤ c) = true → decide (a ≤ c) = true := fun a b c h1 h2 => by simp only [decide_eq_true_eq] at *; omega
  have to : ∀ a b : Int, (decide (a ≤ b) || decide (b ≤ a)) = true := fun a b => by simp only [Bool.or_eq_true, decide_eq_true_eq]; omega
  refine List.Perm.eq_of_pairwise (le := fun a b => decide (a ≤ b) = true) (fun a b _ _ h1 h2 => by simp only [decide_eq_true_eq] at h1 h2; omega) (List.pairwise_mergeSort tr to l) (List.pairwise_mergeSort tr to l') (((List.mergeSort_perm l _).trans h).trans (List.mergeSort_perm l' _).symm)

theorem jobsS_length (M : List (Int × Int)) : (jobsS M).length = M.length := by simp [jobsS]

theorem jobs30_s (w : World) (b m : Nat) (M : List (Int × Int)) (h : BookAt w b m M) :
    Calls Try.prog 30 #[.pointer (some ⟨b, 0, none⟩)] w fun e w' => ∃ (v : Value), e = .returned v ∧ w'.ownsRow w.heap.size 3 1 v (jobsS M).length ((jobsS M).map encZ) ∧ Fr (fun _ => False) w w' := by
  refine (jobs30_any w b m M h).mono ?_
  rintro e w' ⟨v, ss, he, hp, hr, _, hb⟩
  have e1 := sort_perm_eq hp
  have e2 : ss.length = (jobsS M).length := by rw [jobsS_length, hp.length_eq, List.length_map]
  refine ⟨v, he, ?_, Fr.of_below hb⟩
  rw [e1, e2] at hr
  exact hr

set_option maxHeartbeats 400000 in
theorem jobs30_nil (w : World) : Calls Try.prog 30 #[.pointer none] w fun e w' => e = .returned (.slice none 0 0) ∧ w = w' := by
  go_enter Try.func30, Try.ntmps30
  go_wp2
  go_ret
  exact ⟨rfl, rfl⟩

/-- What a round of the loop keeps: but for block A, and for the loop's own. -/
structure KpA (A n0 : Nat) (W W' : World) : Prop where
  size : W.heap.size ≤ W'.heap.size
  keep : ∀ k o, k ≠ A → (k < n0 ∨ o.isCells = true) → W.heap[k]? = some o → W'.heap[k]? = some o

theorem kpA_t {A n0 : Nat} {X Y Z : World} (h : KpA A n0 X Y) (k : KpA A n0 Y Z) : KpA A n0 X Z :=
  ⟨Nat.le_trans h.size k.size, fun i o hi hc ho => k.keep i o hi hc (h.keep i o hi hc ho)⟩
theorem kpA_b {A n0 : Nat} {w : World} (hn : n0 ≤ w.heap.size) (W : World) (l : Nat) (o o' : Obj) (hl : w.heap.size ≤ l) (h : W.heap[l]? = some o) (hc : o.isCells = false) (_ : o.isWalk = false) : KpA A n0 W (W.putObj l o') where
  size := by simp [World.putObj]
  keep := fun k u _ hu hk => by
    have hne : k ≠ l := by
      rintro rfl
      rw [h] at hk
      cases hk
      rcases hu with hu | hu
      · omega
      · rw [hc] at hu; cases hu
    rw [World.putObj_heap_other hne]
    exact hk
theorem KpA.set (A n0 : Nat) (W : World) (u : Value) : KpA A n0 W (W.setCell ⟨A, 0, none⟩ u) where
  size := by simp [World.setCell]
  keep := fun k o hk _ ho => (Below.heap_setCell W ⟨A, 0, none⟩ u k hk).trans ho
theorem KpA.blk {A n0 : Nat} {W W' : World} (h : KpA A n0 W W') {g : Nat} {t : TypeId} {cs : Array Value} (hg : g ≠ A) (hb : Blk W g t cs) : Blk W' g t cs := h.keep g _ hg (Or.inr rfl) hb
theorem KpA.map {A n0 : Nat} {W W' : World} (h : KpA A n0 W W') {k : TypeId} {m : Nat} {L : List (Lit × Value)} (hm : m ≠ A) (hlt : m < n0) (hb : MapL Try.prog k W m L) : MapL Try.prog k W' m L := by
  obtain ⟨es, clock, h1, h2⟩ := hb
  exact ⟨es, clock, h.keep m _ hm (Or.inl hlt) h1, h2⟩
theorem KpA.book {A n0 : Nat} {W W' : World} (h : KpA A n0 W W') {b m : Nat} {M : List (Int × Int)} (hm : m ≠ A) (hlt : m < n0) (hb : b ≠ A) (hB : BookAt W b m M) : BookAt W' b m M :=
  ⟨h.blk hb hB.blk, h.map hm hlt hB.map, hB.wf, hB.len⟩
theorem KpA.row {A n0 : Nat} {W W' : World} (h : KpA A n0 W W') {base : Nat} {e : TypeId} {size : Nat} {v : Value} {n : Nat} {xs : List Value} (hA : A < base) (hr : W.ownsRow base e size v n xs) : W'.ownsRow base e size v n xs := by
  obtain ⟨h1, h2⟩ := hr
  refine ⟨h1, ?_⟩
  rcases h2 with h2 | ⟨g, cap, cur, rfl, hg, hb, h3⟩
  · exact Or.inl h2
  · exact Or.inr ⟨g, cap, cur, rfl, hg, h.keep g _ (by omega) (Or.inr rfl) hb, h3⟩

theorem wf_key {M : List (Int × Int)} (h : ∀ p ∈ M, wf64 p.1 ∧ wf64 p.2) {j : Int} (hj : j ∈ jobsS M) : wf64 j := by
  obtain ⟨p, hp, rfl⟩ := List.mem_map.1 ((List.mergeSort_perm _ _).mem_iff.1 hj)
  exact (h p hp).1

/-- A number, or 0 if it is none of 64 bits. -/
def cl (n : Int) : Int := if -9223372036854775808 ≤ n ∧ n ≤ 9223372036854775807 then n else 0
theorem cl_wf (n : Int) : wf64 (cl n) := by unfold cl wf64; split <;> omega
theorem cl_id {n : Int} (h : wf64 n) : cl n = n := if_pos h
abbrev encR (x : Int × Int) : Array Value := #[.int .i64 (cl x.1), .int .i64 (cl x.2)]

end Go.Proofs.Ytomoomopodihhaa
