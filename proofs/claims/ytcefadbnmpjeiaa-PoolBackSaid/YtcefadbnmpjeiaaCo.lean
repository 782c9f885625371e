/-
  Count.
-/
import Derived.Test.YtcefadbnmpjeiaaCnt
import Derived.Test.YtcefadbnmpjeiaaF
import Derived.Test.YtcefadbnmpjeiaaMaskEq
namespace Go.Proofs.Ytcefadbnmpjeiaa
open Go.RowKit Go.Maps Go.Shelf
attribute [local go_sem] Oper.semAt_some

set_option maxRecDepth 20000 in
set_option maxHeartbeats 2000000 in
theorem count31_any (M : Nat) (w : World) : Calls Try.prog 31 #[valM M] w fun e w' => e = .returned (.int .i64 (countM M)) ∧ Fr (fun _ => False) w w' := by
  have hmk := fun W => (callsIn_wide (n := 9)).2 (cores63_any M W)
  simp only [valM, Ytcefadbnmpjeiaa.cellsM] at hmk
  have HMK := Lib.hid hmk
  clear hmk
  have hfmk : Fence.wide.fn 63 := trivial
  have HB := Lib.hid (Blk.new w 33 (cellsM M))
  have HN := Lib.hid (Blk.new (w.alloc (.cells (cellsM M) 33)) 3 #[.int .i64 0])
  have HF := Lib.hid (((Fr.refl (fun _ => False) w).alloc (.cells (cellsM M) 33)).alloc (.cells #[.int .i64 0] 3))
  unfold valM
  simp only [Ytcefadbnmpjeiaa.cellsM] at *
  refine (callsIn_wide (n := 10)).1 ?_
  refine callsIn_of_wp_marks Try.func31 rfl trivial ?_ rfl
  simp only [Try.ntmps31, List.size_toArray, List.length_cons, List.length_nil, Nat.reduceAdd, Nat.reduceSub, Array.replicate_succ, Array.replicate_zero, List.push_toArray, List.append_toArray, List.nil_append, List.cons_append]
  gi_wp2_with (gi_at_call 63; refine (HMK.out _).mono ?_; rintro e w3 ⟨rfl, rfl⟩)
  have bN := (HN.out).alloc (.cells #[.int .u64 (wordM M 0 : Nat), .int .u64 (wordM M 1 : Nat), .int .u64 (wordM M 2 : Nat), .int .u64 (wordM M 3 : Nat)] 33)
  have bB := Blk.new ((w.alloc (.cells #[.int .u64 (wordM M 0 : Nat), .int .u64 (wordM M 1 : Nat), .int .u64 (wordM M 2 : Nat), .int .u64 (wordM M 3 : Nat)] 33)).alloc (.cells #[.int .i64 0] 3)) 33 (cellsM M)
  simp only [World.size_alloc] at bN bB
  have hB0 : Below w.heap.size w (((w.alloc (.cells #[.int .u64 (wordM M 0 : Nat), .int .u64 (wordM M 1 : Nat), .int .u64 (wordM M 2 : Nat), .int .u64 (wordM M 3 : Nat)] 33)).alloc (.cells #[.int .i64 0] 3)).alloc (.cells #[.int .u64 (wordM M 0 : Nat), .int .u64 (wordM M 1 : Nat), .int .u64 (wordM M 2 : Nat), .int .u64 (wordM M 3 : Nat)] 33)) := (HF.out.alloc _).below (Nat.le_refl _) (fun _ h => h.elim)
  have hWs : (((w.alloc (.cells #[.int .u64 (wordM M 0 : Nat), .int .u64 (wordM M 1 : Nat), .int .u64 (wordM M 2 : Nat), .int .u64 (wordM M 3 : Nat)] 33)).alloc (.cells #[.int .i64 0] 3)).alloc (.cells #[.int .u64 (wordM M 0 : Nat), .int .u64 (wordM M 1 : Nat), .int .u64 (wordM M 2 : Nat), .int .u64 (wordM M 3 : Nat)] 33)).heap.size = w.heap.size + 3 := by simp
  have hstp := cores_stops 9 (by omega) (w.heap.size + 1 + 1) (fun i => i = w.heap.size + 1) M (by simp) _ bB
  simp only [Ytcefadbnmpjeiaa.cellsM] at hstp bB
  generalize hW3 : ((w.alloc (.cells #[.int .u64 (wordM M 0 : Nat), .int .u64 (wordM M 1 : Nat), .int .u64 (wordM M 2 : Nat), .int .u64 (wordM M 3 : Nat)] 33)).alloc (.cells #[.int .i64 0] 3)).alloc (.cells #[.int .u64 (wordM M 0 : Nat), .int .u64 (wordM M 1 : Nat), .int .u64 (wordM M 2 : Nat), .int .u64 (wordM M 3 : Nat)] 33) = W3 at *
  refine wpIn_rangeFunc_ownG rfl (by omega) (gf := 80) (lb := #[.pointer (some ⟨w.heap.size + 1 + 1, 0, none⟩)]) rfl trivial (enters_of Try.func80 (by kernel_rfl) rfl)
    hstp kpS_t (kpS_b (Nat.le_refl _)) (Below.refl _ _) (fun _ => rfl)
    (fun (pre : List Int) W => Blk W (w.heap.size + 1) 3 #[.int .i64 (pre.length : Nat)] ∧ Below w.heap.size w W)
    (fun _ _ _ => False)
    (OwnFrom.and (Own.from (fun st X Y row hs hg hr => hs.fr (fr_of_own hg hr) (fun h => h _ _ _ hs)) _) (ownFrom_below (Nat.le_refl _) (by omega)))
    (fun _ _ _ _ _ hs _ _ => hs)
    ⟨bN, hB0⟩
    ?a1 ?assign ?body ?done ?stop
  case assign =>
    intro l x W K hK
    gi_wp2
    exact hK
  case body =>
    rintro l pre x W ⟨hb, hB⟩ hlt
    have hc := hb.cell 0
    have hf := hb.frozen 0
    have hfr : Fr (fun i => i = w.heap.size + 1) W (W.setCell ⟨w.heap.size + 1, 0, none⟩ (.int .i64 ((pre.length : Int) + 1))) := (Fr.refl (fun i => i = w.heap.size + 1) W).setCell (p := ⟨w.heap.size + 1, 0, none⟩) (Or.inl rfl) _
    have hlt2 : pre.length < 256 := by omega
    gi_wp2
    refine ⟨(keeps_of_fr hfr (fun i hi _ => by subst hi; exact ⟨_, _, _, hb⟩)).from _, KpS.fr hfr (fun i _ h => h), ?_, hB.trans (hfr.below hB.size (fun i h => by omega))⟩
    have h2 := hb.set_ 0 (.int .i64 ((pre.length : Int) + 1))
    rw [List.length_append]
    exact h2
  case done =>
    rintro D ys W hD rfl ⟨hb, hB⟩ hK
    have hc := hb.cell 0
    gi_wp2
    refine ⟨by simp, .inl ⟨_, _, rfl, run_takeDeferred hK, ?_⟩⟩
    exact ⟨_, results_tmp rfl _ _ _, rfl, Fr.of_below (hB.trans (belowK_b (w := w) (Nat.le_refl _) W D _ _ (by omega) hK rfl rfl))⟩
  case stop =>
    rintro D c pre W _ _ h _
    exact h.elim

end Go.Proofs.Ytcefadbnmpjeiaa
