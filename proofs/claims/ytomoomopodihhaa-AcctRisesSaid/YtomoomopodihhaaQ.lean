/-
  The book's All.
-/
import Derived.Test.YtomoomopodihhaaP
namespace Go.Proofs.Ytomoomopodihhaa
open Go.RowKit Go.Maps Go.Sort Go.Shelf
attribute [local go_sem] Oper.semAt_some

set_option maxHeartbeats 400000 in
theorem rows47_any (p : Option Addr) (w : World) : Calls Try.prog 47 #[.pointer p] w fun e w' => e = .returned (.func (.func 61) #[] #[.pointer (some ⟨w.heap.size, 0, none⟩)]) ∧ w' = w.alloc (.cells #[.pointer p] 34) := by
  go_enter Try.func47, Try.ntmps47
  go_wp2
  go_ret
  exact ⟨rfl, rfl⟩

theorem rows61_stops (n : Nat) (hn : 6 ≤ n) (Bb b m A : Nat) (M : List (Int × Int)) (w : World)
    (hBb : Blk w Bb 34 #[.pointer (some ⟨b, 0, none⟩)]) (hB : BookAt w b m M) (hbA : b ≠ A) (hmA : m ≠ A) (hBA : Bb ≠ A) (hA : A < w.heap.size) :
    SeqStopsK Fence.wide n Try.prog 61 #[.pointer (some ⟨Bb, 0, none⟩)] encR (KpA A w.heap.size) (fun ys => ys = rowsS M) (fun _ => True) M.length w := fun l J Jx W hW hJ _ hY h0 => by
  have hf : Fr (fun _ => False) w W := Fr.of_below hW
  have hs := hW.size
  exact rows61_in n hn l Bb b m A w.heap.size M J Jx hY W (hBb.fr hf (fun h => h)) (hB.fr hf (fun h => h) (fun h => h)) hbA hmA hBA hB.map.lt (by omega) hJ h0

def allW (R : List (Int × Int)) : Int := R.foldl (fun s p => addS s (cl p.2)) 0
theorem allW_snoc (pre : List (Int × Int)) (x : Int × Int) : allW (pre ++ [x]) = addS (allW pre) (cl x.2) := by simp [allW]
theorem allW_wf (pre : List (Int × Int)) : wf64 (allW pre) := by
  rcases List.eq_nil_or_concat pre with rfl | ⟨q, x, rfl⟩
  · simp [allW, wf64]
  · rw [List.concat_eq_append, allW_snoc]; exact (addS_wf _ _).1
theorem allW_eq {R : List (Int × Int)} (h : ∀ p ∈ R, wf64 p.2) : allW R = allS R := by
  unfold allW allS
  generalize (0 : Int) = s
  induction R generalizing s with
  | nil => rfl
  | cons p r ih =>
    rw [List.foldl_cons, List.foldl_cons, cl_id (h p (by simp))]
    exact ih (fun q hq => h q (by simp [hq])) _

theorem rowsS_wf {M : List (Int × Int)} (h : ∀ p ∈ M, wf64 p.1 ∧ wf64 p.2) : ∀ p ∈ rowsS M, wf64 p.2 := by
  intro p hp
  obtain ⟨j, _, rfl⟩ := List.mem_map.1 hp
  exact findK_wf h j

set_option maxHeartbeats 400000 in
theorem all27_nil (w : World) : Calls Try.prog 27 #[.pointer none] w fun e w' => e = .returned (.int .i64 0) ∧ w = w' := by
  go_enter Try.func27, Try.ntmps27
  go_wp2
  go_ret
  exact ⟨rfl, rfl⟩

set_option maxHeartbeats 1000000 in
theorem all27_any (w : World) (b m : Nat) (M : List (Int × Int)) (h : BookAt w b m M) :
    Calls Try.prog 27 #[.pointer (some ⟨b, 0, none⟩)] w fun e w' => e = .returned (.int .i64 (allS (rowsS M))) ∧ Fr (fun _ => False) w w' := by
  refine (callsIn_wide (n := 8)).1 ?_
  have hb := h.blk.lt
  have hm := h.map.lt
  have h47 := fun W => (callsIn_wide (n := 7)).2 (rows47_any (some ⟨b, 0, none⟩) W)
  have hf47 : Fence.wide.fn 47 := trivial
  rw [← allW_eq (rowsS_wf h.wf)]
  refine callsIn_of_wp_marks Try.func27 rfl trivial ?_ rfl
  simp only [Try.ntmps27, List.size_toArray, List.length_cons, List.length_nil, Nat.reduceAdd, Nat.reduceSub, Array.replicate_succ, Array.replicate_zero, List.push_toArray, List.append_toArray, List.nil_append, List.cons_append]
  gi_wp2_with (gi_at_call 47; refine (h47 _).mono ?_; rintro e w' ⟨rfl, rfl⟩)
  have bS := Boxed.new w 3 (.int .i64 0)
  have hF0 : Fr (fun _ => False) w ((w.alloc (.cells #[.int .i64 0] 3)).alloc (.cells #[.pointer (some ⟨b, 0, none⟩)] 34)) := ((Fr.refl _ w).alloc _).alloc _
  have hB0 : Below w.heap.size w ((w.alloc (.cells #[.int .i64 0] 3)).alloc (.cells #[.pointer (some ⟨b, 0, none⟩)] 34)) := ((Below.refl _ w).alloc (Nat.le_refl _) _).alloc (by simp) _
  have bN := Blk.new (w.alloc (.cells #[.int .i64 0] 3)) 34 #[.pointer (some ⟨b, 0, none⟩)]
  rw [World.size_alloc] at bN
  have hsz : ((w.alloc (.cells #[.int .i64 0] 3)).alloc (.cells #[.pointer (some ⟨b, 0, none⟩)] 34)).heap.size = w.heap.size + 2 := by simp
  have hst := rows61_stops 7 (by omega) (w.heap.size + 1) b m w.heap.size M _ bN (h.fr hF0 (fun h => h) (fun h => h)) (by omega) (by omega) (by omega) (by simp; omega)
  refine wpIn_rangeFunc_ownG rfl (by omega) (gf := 61) (lb := #[.pointer (some ⟨w.heap.size + 1, 0, none⟩)]) rfl trivial (enters_of Try.func61 (by kernel_rfl) rfl)
    hst kpA_t (kpA_b (Nat.le_refl _)) (Below.refl _ _) (fun _ => rfl)
    (fun pre W => (W.cell? ⟨w.heap.size, 0, none⟩ = some (.int .i64 (allW pre)) ∧ W.frozen? ⟨w.heap.size, 0, none⟩ = false) ∧ Below w.heap.size w W)
    (fun _ _ _ => False)
    (OwnFrom.and (Own.from (fun s A B row hs hg hr => ⟨cell_kept hs.1 hg hr, (frozen_kept hs.1 hg hr).trans hs.2⟩) _) (ownFrom_below (Nat.le_refl _) (by simp; omega)))
    (fun _ _ _ _ _ hs _ _ => hs)
    ⟨⟨(bS.alloc _).cell, (bS.alloc _).frozen⟩, hB0⟩
    (fun x => { tmps := #[.pointer (some ⟨b, 0, none⟩), undef, .int .i64 0, .pointer (some ⟨w.heap.size, 0, none⟩), undef, .int .i64 (cl x.2), .pointer (some ⟨b, 0, none⟩), .bool false, .pointer (some ⟨b, 0, none⟩), .func (.func 61) #[] #[.pointer (some ⟨w.heap.size + 1, 0, none⟩)], .int .i64 (cl x.1), .int .i64 (cl x.2), undef, undef, undef, undef], defers := [] }) ?assign ?body ?done ?stop
  case assign =>
    intro l x W K hK
    gi_wp2
    exact hK
  case body =>
    rintro l pre x W ⟨⟨hc, hf⟩, hB⟩ _
    have h17 := (callsIn_wide (n := 5)).2 (add17_any (allW pre) (cl x.2) (allW_wf pre) (cl_wf x.2) W)
    have hd : 1 ≤ 6 := by omega
    have hfa : Fence.wide.fn 17 := trivial
    have hfb : (Fence.wide.inRound l).fn 17 := trivial
    gi_wp2_with (gi_at_call 17; refine (CallsIn.inRound l h17).mono ?_; rintro e w' ⟨rfl, rfl⟩)
    exact ⟨(KeepsOthers.setCell _ _ _).from _, KpA.set _ _ _ _, ⟨by rw [allW_snoc]; exact World.cell?_setCell_same' _ _ _ (by rw [hc]; rfl), by rw [World.frozen?_setCell]; exact hf⟩, hB.setCell (p := ⟨w.heap.size, 0, none⟩) (Nat.le_refl _) _⟩
  case done =>
    rintro D ys W hD rfl ⟨⟨hc, _⟩, hB⟩ hK
    gi_wp2
    refine ⟨by simp, .inl ⟨_, _, rfl, run_takeDeferred hK, ?_⟩⟩
    exact ⟨_, results_tmp rfl _ _ _, rfl, Fr.of_below (hB.trans (belowK_b (w := w) (Nat.le_refl _) W D _ _ (by simp at hD; omega) hK rfl rfl))⟩
  case stop =>
    rintro D c pre W _ _ h _
    exact h.elim

end Go.Proofs.Ytomoomopodihhaa
