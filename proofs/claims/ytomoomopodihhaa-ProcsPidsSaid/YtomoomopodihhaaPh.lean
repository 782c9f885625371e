/-
  The table: Reap.
-/
import Derived.Test.YtomoomopodihhaaPg
namespace Go.Proofs.Ytomoomopodihhaa
open Go.RowKit Go.Maps

def zeroT : TaskD := ⟨0, 0, 0, 0, 0, .slice none 0 0, [], 0, 0⟩
def reapN (K : List (TaskD × Int)) (pid : Int) : Int := match findP K pid with | none => 1 | some p => if p.1.state == 2 then 0 else 14
def reapK (K : List (TaskD × Int)) (pid : Int) : List (TaskD × Int) := if reapN K pid = 0 then K.filter (fun p => p.1.pid != pid) else K

def ReapPost (w : World) (t : Nat) (K : List (TaskD × Int)) (last : Int) (X : Nat → Prop) (pid : Int) (e : Ending) (w' : World) : Prop :=
  ∃ x : TaskD, e = .returned (.tuple #[x.val, .int .i64 (reapN K pid)]) ∧ CoresOk w' x.cv x.ns ∧ PNx w t (reapK K pid) last X w' ∧ (if reapN K pid = 0 then (findP K pid).map (·.1) = some x.abs else x = zeroT) ∧ ∀ g, x.cv.ownBlock = some g → X g

section
variable {w w' : World} {t m : Nat} {M : List ProcE} {last : Int}
theorem TabAt.reap (h : TabAt w t m M last) (pid : Int) (hm : MapL Try.prog 3 w' m ((M.map pP).filter (fun p => !p.1.sameKey (.int .i64 pid)))) (hg : w.grownBy w' (some m)) :
    PNx w t ((M.map ProcE.abs).filter (fun p => p.1.pid != pid)) last (ownP t m M) w' := by
  have hmt : ¬ m = t := h.m_ne
  have hFg : Fr (fun i => i = m) w w' := Fr.of_grown hg (fun k hk => by cases hk; rfl)
  have hent : ∀ e ∈ M, e.blk ≠ m := fun e he e2 => h.map.ne_blk (h.ent e he) e2.symm
  have hcor : ∀ e ∈ M, ∀ k, e.t.cv.ownBlock = some k → k ≠ m := fun e he k hk e2 => by
    obtain ⟨cur, hc⟩ := ownsRow_block (h.cor e he) hk
    subst e2
    exact h.map.no_cells hc
  have hsub : ∀ {e : ProcE}, e ∈ M.filter (fun e => e.t.pid != pid) → e ∈ M := fun he => (List.mem_filter.1 he).1
  refine ⟨ownP t m (M.filter fun e => e.t.pid != pid), ⟨m, _, ⟨h.blk.fr hFg (fun e => hmt e.symm), ?_, fun e he => (h.ent e (hsub he)).fr hFg (hent e (hsub he)), fun e he => ownsRow_fr (h.cor e (hsub he)) hFg (fun k hk => hcor e (hsub he) k hk), h.srt.filter _, fun e he => h.rng e (hsub he), fun e he => h.nl e (hsub he), Nat.le_trans (List.length_filter_le _ _) h.le, h.lo, h.hi⟩, ?_, rfl⟩, ?_, ?_⟩
  · have e1 : (M.map pP).filter (fun p => !p.1.sameKey (.int .i64 pid)) = (M.filter fun e => e.t.pid != pid).map pP := by
      rw [List.filter_map]
      congr 1
      apply List.filter_congr
      intro e _
      simp only [Function.comp, pP, same_int]
      rfl
    rw [← e1]
    exact hm
  · rw [List.filter_map]
    rfl
  · exact hFg.mono (fun i _ hi => Or.inr (Or.inl hi))
  · rintro i (rfl | rfl | ⟨e, he, h1⟩)
    · exact Or.inl (Or.inl rfl)
    · exact Or.inl (Or.inr (Or.inl rfl))
    · exact Or.inl (Or.inr (Or.inr ⟨e, hsub he, h1⟩))
end

theorem PNx.post {w W w6 w8 : World} {t B : Nat} {K' : List (TaskD × Int)} {l : Int} {X : Nat → Prop} (hw : Fr (fun _ => False) w W) (h : PNx W t K' l X w6) (hX : ∀ i, X i → i < B) (hwB : w.heap.size ≤ B) (hB : B < W.heap.size) (hf : Fr (fun i => i = B) w6 w8) : PNx w t K' l X w8 := by
  obtain ⟨X', h1, h2, h3⟩ := h
  have hs := hw.size
  have hn : ∀ i, X' i → ¬ i = B := fun i hi e => by
    rcases h3 i hi with h | h
    · have := hX i h; omega
    · omega
  refine ⟨X', h1.fr hf hn, ((hw.mono (fun _ _ h => h.elim)).then h2).trans hf (fun i hi e => by omega), fun i hi => ?_⟩
  rcases h3 i hi with h | h
  · exact Or.inl h
  · exact Or.inr (by omega)

theorem coresOk_nil (W : World) : CoresOk W (.slice none 0 0) [] := ⟨⟨none, 0, rfl, fun k hk => by simp at hk⟩, Nat.le_refl _, (fun n c e => by cases e; rfl), by simp⟩

theorem pc9 {W : World} {g : Nat} {a0 a1 a2 a3 a4 a5 a6 a7 a8 : Value} (h : Blk W g 92 #[a0, a1, a2, a3, a4, a5, a6, a7, a8]) :
    W.cell? ⟨g, 0, none⟩ = some a0 ∧ W.cell? ⟨g, 1, none⟩ = some a1 ∧ W.cell? ⟨g, 2, none⟩ = some a2 ∧ W.cell? ⟨g, 3, none⟩ = some a3 ∧ W.cell? ⟨g, 4, none⟩ = some a4 ∧ W.cell? ⟨g, 5, none⟩ = some a5 ∧ W.cell? ⟨g, 6, none⟩ = some a6 ∧ W.cell? ⟨g, 7, none⟩ = some a7 :=
  ⟨h.cell 0, h.cell 1, h.cell 2, h.cell 3, h.cell 4, h.cell 5, h.cell 6, h.cell 7⟩

set_option maxRecDepth 20000 in
set_option maxHeartbeats 400000 in
theorem reap39_any (w : World) (t : Nat) (K : List (TaskD × Int)) (last : Int) (X : Nat → Prop) (h : PT w t K last X) (pid : Int) (hid : wf64 pid) :
    Calls Try.prog 39 #[.pointer (some ⟨t, 0, none⟩), .int .i64 pid] w (ReapPost w t K last X pid) := by
  have hP0 := h
  obtain ⟨m, M, hT, rfl, rfl⟩ := h
  have hf0 := (Fr.refl (fun _ => False) w).alloc (.cells #[.int .i64 0, .int .i64 0, .int .i64 0, .int .i64 0, .int .i64 0, .slice none 0 0, .int .i64 0, .int .i64 0] 61)
  have hf1 := hf0.alloc (.cells #[.int .i64 2] 3)
  have hT1 := hT.fr0 hf1
  have hB := (Blk.new w 61 #[.int .i64 0, .int .i64 0, .int .i64 0, .int .i64 0, .int .i64 0, .slice none 0 0, .int .i64 0, .int .i64 0]).alloc (.cells #[.int .i64 2] 3)
  have hC0 := Blk.new (w.alloc (.cells #[.int .i64 0, .int .i64 0, .int .i64 0, .int .i64 0, .int .i64 0, .slice none 0 0, .int .i64 0, .int .i64 0] 61)) 3 #[.int .i64 2]
  rw [World.size_alloc] at hC0
  have hC := hC0.cell 0
  have HI := Lib.hid (is59_any 2 (w.alloc (.cells #[.int .i64 0, .int .i64 0, .int .i64 0, .int .i64 0, .int .i64 0, .slice none 0 0, .int .i64 0, .int .i64 0] 61)))
  have HFD := Lib.hid (find58_is _ t m M last hT1 pid hid (w.heap.size + 1) 2 hC)
  have HT := Lib.hid hT1
  have HTW := Lib.hid hT
  have HB := Lib.hid hB
  have HF1 := Lib.hid hf1
  have HP := Lib.hid hP0
  clear hT hP0 hf0 hf1 hT1 hB hC hC0
  go_enter Try.func39, Try.ntmps39
  go_wp2_with fail
  refine HI.out.mono ?_
  rintro e w1 ⟨rfl, rfl⟩
  go_wp2_with fail
  refine HFD.out.mono ?_
  rintro e w2 ⟨rfl, ⟨hno, rfl⟩ | ⟨x, hx, hpx, ⟨hs, rfl⟩ | ⟨hs, rfl⟩⟩⟩
  · have hr : reapN (M.map ProcE.abs) pid = 1 := by unfold reapN; rw [findP_miss hno]
    have HR := Lib.hid (fun w' (hf : Fr (fun _ => False) w w') => (⟨zeroT, by rw [hr], coresOk_nil w', by unfold reapK; rw [hr]; exact PNx.same HP.out hf, by rw [hr]; rfl, fun g hg => by have h9 : (none : Option Nat) = some g := hg; cases h9⟩ : ReapPost w t (M.map ProcE.abs) last (ownP t m M) pid (.returned (.tuple #[zeroT.val, .int .i64 1])) w'))
    obtain ⟨y0, y1, y2, y3, y4, y5, y6, y7⟩ := tc HB.out
    have fz := fun i => HB.out.frozen i
    clear hno hr
    go_wp2_with fail
    (try simp only [Exit.inBlock, Exit.then])
    refine bodyPost_ret (v := .tuple #[zeroT.val, .int .i64 1]) ?_ rfl (HR.out _ HF1.out)
    rw [results_cell_tmp rfl]
    unfold zeroT TaskD.val
    go_simp
  · have hr : reapN (M.map ProcE.abs) pid = 0 := by unfold reapN; rw [← hpx, findP_hit HT.out hx]; show (if (x.t.state == 2) = true then (0 : Int) else 14) = _; rw [show (x.t.state == 2) = true from hs]; rfl
    have hfind : (findP (M.map ProcE.abs) pid).map (·.1) = some x.t.abs := by rw [← hpx, findP_hit HT.out hx]; rfl
    obtain ⟨w6, hrun, hm6, hg6⟩ := HT.out.map.drop law3 Try.underlying86 (key3 hid) 0
    have hbx : Blk _ x.blk 92 #[.int .i64 x.t.pid, .int .i64 x.t.job, .int .i64 x.t.epoch, .int .i64 x.t.step, .int .i64 x.t.rank, x.t.cv, .int .i64 x.t.state, .int .i64 x.t.code, .int .i64 x.sig] := HT.out.ent x hx
    have hxm : x.blk ≠ m := fun e2 => HT.out.map.ne_blk hbx e2.symm
    have hbx6 := hbx.grown hg6 (fun e => hxm (by cases e; rfl))
    obtain ⟨z0, z1, z2, z3, z4, z5, z6, z7⟩ := pc9 hbx6
    have hmlt := HTW.out.map.lt
    have hB6 := HB.out.grown hg6 (fun e => by cases e; omega)
    obtain ⟨y0, y1, y2, y3, y4, y5, y6, y7⟩ := tc hB6
    have fz := fun i => hB6.frozen i
    have c6 : w6.cell? ⟨t, 0, none⟩ = some (.map (some m)) := (HT.out.blk.grown hg6 (fun e => HT.out.m_ne (by cases e; rfl))).cell 0
    have c00 := HT.out.c0
    have hcor := ownsRow_fr (HT.out.cor x hx) (Fr.of_grown (S := fun i => i = m) hg6 (fun k hk => by cases hk; rfl)) (fun k hk e2 => by
      obtain ⟨cur, hc⟩ := ownsRow_block (HT.out.cor x hx) hk
      subst e2
      exact HT.out.map.no_cells hc)
    have hcB : ∀ k, x.t.cv.ownBlock = some k → k < w.heap.size := fun k hk => ((HTW.out.cor x hx).lt k hk).2
    have HR := Lib.hid (fun w8 (hf : Fr (fun i => i = w.heap.size) w6 w8) => (⟨x.t, by rw [hr], coresOk_row (ownsRow_fr hcor hf (fun k hk e => by have := hcB k hk; omega)) (HT.out.nl x hx), by unfold reapK; rw [hr]; exact PNx.post HF1.out (HT.out.reap pid hm6 hg6) (fun i hi => HTW.out.lt hi) (Nat.le_refl _) (by simp; omega) hf, by rw [hr]; exact hfind, fun g hg => Or.inr (Or.inr ⟨x, hx, Or.inr hg⟩)⟩ : ReapPost w t (M.map ProcE.abs) last (ownP t m M) pid (.returned (.tuple #[x.t.val, .int .i64 0])) w8))
    obtain ⟨A9, cap9, hcv⟩ := row_shape hcor
    have HCV := Lib.hid hcv
    have hFS : Fr (fun i => i = w.heap.size) w6 ((((((((w6.setCell ⟨w.heap.size, 0, none⟩ (.int .i64 x.t.pid)).setCell ⟨w.heap.size, 1, none⟩ (.int .i64 x.t.job)).setCell ⟨w.heap.size, 2, none⟩ (.int .i64 x.t.epoch)).setCell ⟨w.heap.size, 3, none⟩ (.int .i64 x.t.step)).setCell ⟨w.heap.size, 4, none⟩ (.int .i64 x.t.rank)).setCell ⟨w.heap.size, 5, none⟩ x.t.cv).setCell ⟨w.heap.size, 6, none⟩ (.int .i64 x.t.state)).setCell ⟨w.heap.size, 7, none⟩ (.int .i64 x.t.code)) :=
      (((((((((Fr.refl (fun i => i = w.heap.size) w6).setCell (p := ⟨w.heap.size, 0, none⟩) (Or.inl rfl) _).setCell (p := ⟨w.heap.size, 1, none⟩) (Or.inl rfl) _).setCell (p := ⟨w.heap.size, 2, none⟩) (Or.inl rfl) _).setCell (p := ⟨w.heap.size, 3, none⟩) (Or.inl rfl) _).setCell (p := ⟨w.heap.size, 4, none⟩) (Or.inl rfl) _).setCell (p := ⟨w.heap.size, 5, none⟩) (Or.inl rfl) _).setCell (p := ⟨w.heap.size, 6, none⟩) (Or.inl rfl) _).setCell (p := ⟨w.heap.size, 7, none⟩) (Or.inl rfl) _)
    have HE := Lib.hid (HR.out _ hFS)
    clear hr hs hpx hfind hbx hbx6 hB6 hcor hcB hm6 hg6 hFS HR hxm
    rw [hcv] at z5
    obtain ⟨xb, ⟨xpid, xjob, xepoch, xstep, xrank, xcv, xns, xstate, xcode⟩, xsig⟩ := x
    simp only at hcv
    subst hcv
    simp only [TaskD.val] at *
    go_wp2_with fail
    (try simp only [Exit.inBlock, Exit.then])
    refine bodyPost_ret (v := .tuple #[.agg #[.int .i64 xpid, .int .i64 xjob, .int .i64 xepoch, .int .i64 xstep, .int .i64 xrank, .slice A9 xns.length cap9, .int .i64 xstate, .int .i64 xcode], .int .i64 0]) ?_ rfl HE.out
    rw [results_cell_tmp rfl]
    go_simp
  · have hr : reapN (M.map ProcE.abs) pid = 14 := by unfold reapN; rw [← hpx, findP_hit HT.out hx]; show (if (x.t.state == 2) = true then (0 : Int) else 14) = _; rw [show (x.t.state == 2) = false from hs]; rfl
    have HR := Lib.hid (fun w' (hf : Fr (fun _ => False) w w') => (⟨zeroT, by rw [hr], coresOk_nil w', by unfold reapK; rw [hr]; exact PNx.same HP.out hf, by rw [hr]; rfl, fun g hg => by have h9 : (none : Option Nat) = some g := hg; cases h9⟩ : ReapPost w t (M.map ProcE.abs) last (ownP t m M) pid (.returned (.tuple #[zeroT.val, .int .i64 14])) w'))
    obtain ⟨y0, y1, y2, y3, y4, y5, y6, y7⟩ := tc HB.out
    have fz := fun i => HB.out.frozen i
    clear hr hs hpx
    go_wp2_with fail
    (try simp only [Exit.inBlock, Exit.then])
    refine bodyPost_ret (v := .tuple #[zeroT.val, .int .i64 14]) ?_ rfl (HR.out _ HF1.out)
    rw [results_cell_tmp rfl]
    unfold zeroT TaskD.val
    go_simp

end Go.Proofs.Ytomoomopodihhaa
