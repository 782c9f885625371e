/-
  The table: Release, Signal, Exit.
-/
import Derived.Test.YtomoomopodihhaaPe
namespace Go.Proofs.Ytomoomopodihhaa
open Go.RowKit Go.Maps

def updK (K : List (TaskD × Int)) (pid : Int) (f : TaskD × Int → TaskD × Int) : List (TaskD × Int) := K.map fun p => if p.1.pid == pid then f p else p

def relN (K : List (TaskD × Int)) (pid : Int) : Int := match findP K pid with | none => 1 | some p => if p.1.state == 0 then 0 else 14
def relK (K : List (TaskD × Int)) (pid : Int) : List (TaskD × Int) := if relN K pid = 0 then updK K pid (fun p => ({ p.1 with state := 1 }, p.2)) else K
def extN (K : List (TaskD × Int)) (pid c : Int) : Int := if decide (c < 0) || decide (255 < c) then 1 else match findP K pid with | none => 1 | some p => if p.1.state == 1 then 0 else 14
def extK (K : List (TaskD × Int)) (pid c : Int) : List (TaskD × Int) := if extN K pid c = 0 then updK K pid (fun p => ({ p.1 with state := 2, code := c }, p.2)) else K
def sgnN (K : List (TaskD × Int)) (pid s : Int) : Int := if s != 15 && s != 9 then 1 else match findP K pid with | none => 1 | some p => if p.1.state != 2 then 0 else 14
def sgnF (s : Int) (p : TaskD × Int) : TaskD × Int := (if p.1.state == 0 && s == 9 then { p.1 with state := 2, code := 137 } else p.1, if p.2 != 9 then s else p.2)
def sgnK (K : List (TaskD × Int)) (pid s : Int) : List (TaskD × Int) := if sgnN K pid s = 0 then updK K pid (sgnF s) else K

section
variable {w w' : World} {t m : Nat} {M : List ProcE} {last : Int}
theorem TabAt.upd (h : TabAt w t m M last) {x x' : ProcE} (hx : x ∈ M) (hb : x'.blk = x.blk) (hp : x'.t.pid = x.t.pid) (hc : x'.t.cv = x.t.cv) (hn : x'.t.ns = x.t.ns) (f : TaskD × Int → TaskD × Int) (hfx : x'.abs = f x.abs)
    (hf : Fr (fun i => i = x.blk) w w') (hblk : Blk w' x.blk 92 x'.cells) : PNx w t (updK (M.map ProcE.abs) x.t.pid f) last (ownP t m M) w' := by
  have hxb := h.ent x hx
  have htx : t ≠ x.blk := fun e => absurd ((e ▸ h.blk).uniq hxb).1 (by decide)
  have hmx : m ≠ x.blk := h.map.ne_blk hxb
  have hcx : ∀ e ∈ M, ∀ k, e.t.cv.ownBlock = some k → k ≠ x.blk := fun e he k hk e2 => by
    obtain ⟨cur, hcur⟩ := ownsRow_block (h.cor e he) hk
    unfold Blk at hxb
    rw [e2, hxb] at hcur
    cases hcur
  have hne : ∀ e ∈ M, e.t.pid ≠ x.t.pid → e.blk ≠ x.blk := fun e he hp2 e2 => hp2 (by rw [h.inj he hx e2])
  have hmem : ∀ {e : ProcE}, e ∈ (M.map fun e => if e.t.pid == x.t.pid then x' else e) → e = x' ∨ (e ∈ M ∧ e.t.pid ≠ x.t.pid) := fun {e} he => by
    obtain ⟨a, ha, rfl⟩ := List.mem_map.1 he
    by_cases h1 : a.t.pid = x.t.pid
    · rw [if_pos (by simpa using h1)]; exact Or.inl rfl
    · rw [if_neg (by simpa using h1)]; exact Or.inr ⟨ha, h1⟩
  have hpid : ∀ e ∈ M, (if e.t.pid == x.t.pid then x' else e).t.pid = e.t.pid := fun e _ => by
    by_cases h1 : e.t.pid = x.t.pid
    · rw [if_pos (by simpa using h1), hp, h1]
    · rw [if_neg (by simpa using h1)]
  refine ⟨ownP t m (M.map fun e => if e.t.pid == x.t.pid then x' else e), ⟨m, _, ⟨h.blk.fr hf htx, ?_, fun e he => ?_, fun e he => ?_, ?_, fun e he => ?_, fun e he => ?_, by rw [List.length_map]; exact h.le, h.lo, h.hi⟩, ?_, rfl⟩, ?_, ?_⟩
  · have e1 : (M.map fun e => if e.t.pid == x.t.pid then x' else e).map pP = M.map pP := by
      rw [List.map_map]
      refine List.map_congr_left fun e he => ?_
      simp only [Function.comp]
      by_cases h1 : e.t.pid = x.t.pid
      · rw [if_pos (by simpa using h1), h.uniq he hx h1]
        unfold pP
        rw [hp, hb]
      · rw [if_neg (by simpa using h1)]
    rw [e1]
    exact h.map.fr hf hmx
  · rcases hmem he with rfl | ⟨he, hp2⟩
    · rw [hb]; exact hblk
    · exact (h.ent e he).fr hf (hne e he hp2)
  · rcases hmem he with rfl | ⟨he, hp2⟩
    · rw [hc, hn]
      exact ownsRow_fr (h.cor x hx) hf (fun k hk => hcx x hx k hk)
    · exact ownsRow_fr (h.cor e he) hf (fun k hk => hcx e he k hk)
  · rw [List.pairwise_map]
    refine h.srt.imp_of_mem fun {a b} ha hb2 hab => ?_
    rw [hpid a ha, hpid b hb2]
    exact hab
  · rcases hmem he with rfl | ⟨he, hp2⟩
    · rw [hp]; exact h.rng x hx
    · exact h.rng e he
  · rcases hmem he with rfl | ⟨he, hp2⟩
    · rw [hn]; exact h.nl x hx
    · exact h.nl e he
  · unfold updK
    rw [List.map_map, List.map_map]
    refine List.map_congr_left fun e he => ?_
    simp only [Function.comp]
    have e2 : e.abs.1.pid = e.t.pid := rfl
    rw [e2]
    by_cases h1 : e.t.pid = x.t.pid
    · rw [if_pos (by simpa using h1), if_pos (by simpa using h1), h.uniq he hx h1]
      exact hfx
    · rw [if_neg (by simpa using h1), if_neg (by simpa using h1)]
  · exact hf.mono (fun i _ hi => Or.inr (Or.inr ⟨x, hx, Or.inl hi.symm⟩))
  · rintro i (rfl | rfl | ⟨e, he, h1⟩)
    · exact Or.inl (Or.inl rfl)
    · exact Or.inl (Or.inr (Or.inl rfl))
    · rcases hmem he with rfl | ⟨he, hp2⟩
      · rw [hb, hc] at h1
        exact Or.inl (Or.inr (Or.inr ⟨x, hx, h1⟩))
      · exact Or.inl (Or.inr (Or.inr ⟨e, he, h1⟩))
end

theorem PNx.pre {w w0 w' : World} {t : Nat} {K : List (TaskD × Int)} {last : Int} {X : Nat → Prop} (hf : Fr (fun _ => False) w w0) (h : PNx w0 t K last X w') : PNx w t K last X w' := by
  obtain ⟨X', h1, h2, h3⟩ := h
  refine ⟨X', h1, (hf.mono (fun _ _ h => h.elim)).then h2, fun i hi => ?_⟩
  rcases h3 i hi with h | h
  · exact Or.inl h
  · exact Or.inr (Nat.le_trans hf.size h)

set_option maxRecDepth 20000 in
set_option maxHeartbeats 1000000 in
theorem release41_any (w : World) (t : Nat) (K : List (TaskD × Int)) (last : Int) (X : Nat → Prop) (h : PT w t K last X) (pid : Int) (hid : wf64 pid) :
    Calls Try.prog 41 #[.pointer (some ⟨t, 0, none⟩), .int .i64 pid] w fun e w' => e = .returned (.int .i64 (relN K pid)) ∧ PNx w t (relK K pid) last X w' := by
  have hf0 := (Fr.refl (fun _ => False) w).alloc (.cells #[.int .i64 0] 3)
  have hP0 := h
  obtain ⟨m, M, hT, rfl, rfl⟩ := h
  have hT0 := hT.fr0 hf0
  have HF := Lib.hid (find58_is _ t m M last hT0 pid hid w.heap.size 0 ((Blk.new w 3 #[.int .i64 0]).cell 0))
  have HI := Lib.hid (is59_any 0 w)
  have HT := Lib.hid hT0
  have HP := Lib.hid hP0
  have HF0 := Lib.hid hf0
  clear hT hT0 hP0 hf0
  go_enter Try.func41, Try.ntmps41
  go_wp2_with fail
  refine HI.out.mono ?_
  rintro e w1 ⟨rfl, rfl⟩
  go_wp2_with fail
  refine HF.out.mono ?_
  rintro e w2 ⟨rfl, ⟨hno, rfl⟩ | ⟨x, hx, hpx, ⟨hs, rfl⟩ | ⟨hs, rfl⟩⟩⟩
  · have hr : relN (M.map ProcE.abs) pid = 1 := by unfold relN; rw [findP_miss hno]
    have HR := Lib.hid (show PNx w t (relK (M.map ProcE.abs) pid) last (ownP t m M) _ from by unfold relK; rw [hr]; exact PNx.same HP.out HF0.out)
    have HRN := Lib.hid hr
    clear hno hr
    go_wp2
    go_ret
    exact ⟨by rw [HRN.out]; rfl, HR.out⟩
  · have hr : relN (M.map ProcE.abs) pid = 0 := by unfold relN; rw [← hpx, findP_hit HT.out hx]; show (if (x.t.state == 0) = true then (0 : Int) else 14) = _; rw [show (x.t.state == 0) = true from hs]; rfl
    have hbx := HT.out.ent x hx
    have f6 := hbx.frozen 6
    have c6 : World.cell? _ ⟨x.blk, 6, none⟩ = some (.int .i64 x.t.state) := hbx.cell 6
    have HR := Lib.hid (show PNx w t (relK (M.map ProcE.abs) pid) last (ownP t m M) _ from by
      unfold relK
      rw [hr, ← hpx]
      exact PNx.pre HF0.out (HT.out.upd hx (x' := { x with t := { x.t with state := 1 } }) rfl rfl rfl rfl _ rfl ((Fr.refl (fun i => i = x.blk) _).setCell (p := ⟨x.blk, 6, none⟩) (Or.inl rfl) (.int .i64 1)) (hbx.set_ 6 _)))
    have HRN := Lib.hid hr
    clear hbx hr hs hpx
    go_wp2
    go_ret
    exact ⟨by rw [HRN.out]; rfl, HR.out⟩
  · have hr : relN (M.map ProcE.abs) pid = 14 := by unfold relN; rw [← hpx, findP_hit HT.out hx]; show (if (x.t.state == 0) = true then (0 : Int) else 14) = _; rw [show (x.t.state == 0) = false from hs]; rfl
    have HR := Lib.hid (show PNx w t (relK (M.map ProcE.abs) pid) last (ownP t m M) _ from by unfold relK; rw [hr]; exact PNx.same HP.out HF0.out)
    have HRN := Lib.hid hr
    clear hr hs hpx
    go_wp2
    go_ret
    exact ⟨by rw [HRN.out]; rfl, HR.out⟩

set_option maxRecDepth 20000 in
set_option maxHeartbeats 1000000 in
theorem exit44_any (w : World) (t : Nat) (K : List (TaskD × Int)) (last : Int) (X : Nat → Prop) (h : PT w t K last X) (pid : Int) (hid : wf64 pid) (c : Int) :
    Calls Try.prog 44 #[.pointer (some ⟨t, 0, none⟩), .int .i64 pid, .int .i64 c] w fun e w' => e = .returned (.int .i64 (extN K pid c)) ∧ PNx w t (extK K pid c) last X w' := by
  by_cases hbad : c < 0 ∨ 255 < c
  · have hr : extN K pid c = 1 := by
      unfold extN
      rw [if_pos (by rcases hbad with h1 | h1 <;> simp [h1])]
    have HR := Lib.hid (show PNx w t (extK K pid c) last X w from by unfold extK; rw [hr]; exact PNx.same h (Fr.refl _ _))
    have HRN := Lib.hid hr
    clear h hr
    rcases (show c < 0 ∨ (¬ c < 0 ∧ c > 255) by omega) with h1 | ⟨h1, h2⟩
    all_goals
      go_enter Try.func44, Try.ntmps44
      go_wp2
      go_ret
      exact ⟨by rw [HRN.out]; rfl, HR.out⟩
  have hc1 : ¬ c < 0 := by omega
  have hc2 : ¬ c > 255 := by omega
  have hgood : (decide (c < 0) || decide (255 < c)) = false := by simp; omega
  have hf0 := (Fr.refl (fun _ => False) w).alloc (.cells #[.int .i64 1] 3)
  have hP0 := h
  obtain ⟨m, M, hT, rfl, rfl⟩ := h
  have hT0 := hT.fr0 hf0
  have HF := Lib.hid (find58_is _ t m M last hT0 pid hid w.heap.size 1 ((Blk.new w 3 #[.int .i64 1]).cell 0))
  have HI := Lib.hid (is59_any 1 w)
  have HT := Lib.hid hT0
  have HP := Lib.hid hP0
  have HF0 := Lib.hid hf0
  clear hT hT0 hP0 hf0
  go_enter Try.func44, Try.ntmps44
  go_wp2_with fail
  refine HI.out.mono ?_
  rintro e w1 ⟨rfl, rfl⟩
  go_wp2_with fail
  refine HF.out.mono ?_
  rintro e w2 ⟨rfl, ⟨hno, rfl⟩ | ⟨x, hx, hpx, ⟨hs, rfl⟩ | ⟨hs, rfl⟩⟩⟩
  · have hr : extN (M.map ProcE.abs) pid c = 1 := by unfold extN; rw [findP_miss hno, hgood]; rfl
    have HR := Lib.hid (show PNx w t (extK (M.map ProcE.abs) pid c) last (ownP t m M) _ from by unfold extK; rw [hr]; exact PNx.same HP.out HF0.out)
    have HRN := Lib.hid hr
    clear hno hr
    go_wp2
    go_ret
    exact ⟨by rw [HRN.out]; rfl, HR.out⟩
  · have hr : extN (M.map ProcE.abs) pid c = 0 := by unfold extN; rw [← hpx, findP_hit HT.out hx, hgood]; show (if (x.t.state == 1) = true then (0 : Int) else 14) = _; rw [show (x.t.state == 1) = true from hs]; rfl
    have hbx := HT.out.ent x hx
    have f6 := hbx.frozen 6
    have f7 := hbx.frozen 7
    have c6 : World.cell? _ ⟨x.blk, 6, none⟩ = some (.int .i64 x.t.state) := hbx.cell 6
    have c7 : World.cell? _ ⟨x.blk, 7, none⟩ = some (.int .i64 x.t.code) := hbx.cell 7
    have HR := Lib.hid (show PNx w t (extK (M.map ProcE.abs) pid c) last (ownP t m M) _ from by
      unfold extK
      rw [hr, ← hpx]
      exact PNx.pre HF0.out (HT.out.upd hx (x' := { x with t := { x.t with state := 2, code := c } }) rfl rfl rfl rfl _ rfl (((Fr.refl (fun i => i = x.blk) _).setCell (p := ⟨x.blk, 6, none⟩) (Or.inl rfl) (.int .i64 2)).setCell (p := ⟨x.blk, 7, none⟩) (Or.inl rfl) (.int .i64 c)) ((hbx.set_ 6 _).set_ 7 _)))
    have HRN := Lib.hid hr
    clear hbx hr hs hpx
    go_wp2
    go_ret
    exact ⟨by rw [HRN.out]; rfl, HR.out⟩
  · have hr : extN (M.map ProcE.abs) pid c = 14 := by unfold extN; rw [← hpx, findP_hit HT.out hx, hgood]; show (if (x.t.state == 1) = true then (0 : Int) else 14) = _; rw [show (x.t.state == 1) = false from hs]; rfl
    have HR := Lib.hid (show PNx w t (extK (M.map ProcE.abs) pid c) last (ownP t m M) _ from by unfold extK; rw [hr]; exact PNx.same HP.out HF0.out)
    have HRN := Lib.hid hr
    clear hr hs hpx
    go_wp2
    go_ret
    exact ⟨by rw [HRN.out]; rfl, HR.out⟩

theorem sgn_two {s : Int} (h : (s != 15 && s != 9) = false) : s = 15 ∨ s = 9 := by
  by_cases h1 : s = 15
  · exact Or.inl h1
  · by_cases h2 : s = 9
    · exact Or.inr h2
    · simp [h1, h2] at h

set_option maxRecDepth 20000 in
set_option maxHeartbeats 3000000 in
theorem signal42_any (w : World) (t : Nat) (K : List (TaskD × Int)) (last : Int) (X : Nat → Prop) (h : PT w t K last X) (pid : Int) (hid : wf64 pid) (s : Int) :
    Calls Try.prog 42 #[.pointer (some ⟨t, 0, none⟩), .int .i64 pid, .int .i64 s] w fun e w' => e = .returned (.int .i64 (sgnN K pid s)) ∧ PNx w t (sgnK K pid s) last X w' := by
  by_cases hbad : (s != 15 && s != 9) = true
  · have hr : sgnN K pid s = 1 := by unfold sgnN; rw [if_pos hbad]
    have HR := Lib.hid (show PNx w t (sgnK K pid s) last X w from by unfold sgnK; rw [hr]; exact PNx.same h (Fr.refl _ _))
    have HRN := Lib.hid hr
    have hb1 : (s != 15) = true := by
      cases h9 : (s != 15)
      · rw [h9] at hbad; cases hbad
      · rfl
    have hb2 : (s != 9) = true := by
      rw [hb1] at hbad
      exact hbad
    clear h hr hbad
    go_enter Try.func42, Try.ntmps42
    go_wp2
    go_ret
    exact ⟨by rw [HRN.out]; rfl, HR.out⟩
  have hgood : (s != 15 && s != 9) = false := by simpa using hbad
  have hP0 := h
  obtain ⟨m, M, hT, rfl, rfl⟩ := h
  have HF := Lib.hid (find58_not _ t m M last hT pid hid)
  have HT := Lib.hid hT
  have HP := Lib.hid hP0
  have HRP := Lib.hid (fun (x : ProcE) (hx : x ∈ M) (hpx : x.t.pid = pid) (hs : (x.t.state != 2) = true) => (show sgnN (M.map ProcE.abs) pid s = 0 by unfold sgnN; rw [← hpx, findP_hit hT hx, hgood]; show (if (x.t.state != 2) = true then (0 : Int) else 14) = _; rw [hs]; rfl))
  have HRX := Lib.hid (fun (x : ProcE) (hx : x ∈ M) (hpx : x.t.pid = pid) (hs : (x.t.state != 2) = false) => (show sgnN (M.map ProcE.abs) pid s = 14 by unfold sgnN; rw [← hpx, findP_hit hT hx, hgood]; show (if (x.t.state != 2) = true then (0 : Int) else 14) = _; rw [hs]; rfl))
  have HRM := Lib.hid (fun (hno : ∀ x ∈ M, x.t.pid ≠ pid) => (show sgnN (M.map ProcE.abs) pid s = 1 by unfold sgnN; rw [findP_miss hno, hgood]; rfl))
  rcases sgn_two hgood with rfl | rfl
  · clear hT hP0 hgood hbad
    go_enter Try.func42, Try.ntmps42
    go_wp2_with fail
    refine HF.out.mono ?_
    rintro e w2 ⟨rfl, ⟨hno, rfl⟩ | ⟨x, hx, hpx, ⟨hs, rfl⟩ | ⟨hs, rfl⟩⟩⟩
    · have hr := HRM.out hno
      have HR := Lib.hid (show PNx w t (sgnK (M.map ProcE.abs) pid 15) last (ownP t m M) w from by unfold sgnK; rw [hr]; exact PNx.same HP.out (Fr.refl _ _))
      have HRN := Lib.hid hr
      clear hno hr
      go_wp2
      go_ret
      exact ⟨by rw [HRN.out]; rfl, HR.out⟩
    · have hr := HRP.out x hx hpx hs
      have hbx := HT.out.ent x hx
      have f6 := hbx.frozen 6
      have f7 := hbx.frozen 7
      have f8 := hbx.frozen 8
      have c6 : w.cell? ⟨x.blk, 6, none⟩ = some (.int .i64 x.t.state) := hbx.cell 6
      have c7 : w.cell? ⟨x.blk, 7, none⟩ = some (.int .i64 x.t.code) := hbx.cell 7
      have c8 : w.cell? ⟨x.blk, 8, none⟩ = some (.int .i64 x.sig) := hbx.cell 8
      have HUP := Lib.hid (fun w' (x' : ProcE) hb hp hc hn hfx hf hblk => show PNx w t (sgnK (M.map ProcE.abs) pid 15) last (ownP t m M) w' from by
        unfold sgnK
        rw [hr, ← hpx]
        exact HT.out.upd hx (x' := x') hb hp hc hn (sgnF 15) hfx hf hblk)
      have HRN := Lib.hid hr
      have HBX := Lib.hid hbx
      clear hr hpx hs hbx
      cases g1 : (x.t.state == 0) with
      | false =>
        cases g2 : (x.sig != 9) with
        | false =>
          have HE := Lib.hid (HUP.out _ ⟨x.blk, x.t, x.sig⟩ rfl rfl rfl rfl (by simp [sgnF, ProcE.abs, TaskD.abs, g1, g2]) ((Fr.refl (fun i => i = x.blk) w)) (HBX.out))
          go_wp2
          go_ret
          exact ⟨by rw [HRN.out]; rfl, HE.out⟩
        | true =>
          have HE := Lib.hid (HUP.out _ ⟨x.blk, x.t, 15⟩ rfl rfl rfl rfl (by simp [sgnF, ProcE.abs, TaskD.abs, g1, g2]) (((Fr.refl (fun i => i = x.blk) w)).setCell (p := ⟨x.blk, 8, none⟩) (Or.inl rfl) (.int .i64 15)) ((HBX.out).set_ 8 (.int .i64 15)))
          go_wp2
          go_ret
          exact ⟨by rw [HRN.out]; rfl, HE.out⟩
      | true =>
        cases g2 : (x.sig != 9) with
        | false =>
          have HE := Lib.hid (HUP.out _ ⟨x.blk, x.t, x.sig⟩ rfl rfl rfl rfl (by simp [sgnF, ProcE.abs, TaskD.abs, g1, g2]) ((Fr.refl (fun i => i = x.blk) w)) (HBX.out))
          go_wp2
          go_ret
          exact ⟨by rw [HRN.out]; rfl, HE.out⟩
        | true =>
          have HE := Lib.hid (HUP.out _ ⟨x.blk, x.t, 15⟩ rfl rfl rfl rfl (by simp [sgnF, ProcE.abs, TaskD.abs, g1, g2]) (((Fr.refl (fun i => i = x.blk) w)).setCell (p := ⟨x.blk, 8, none⟩) (Or.inl rfl) (.int .i64 15)) ((HBX.out).set_ 8 (.int .i64 15)))
          go_wp2
          go_ret
          exact ⟨by rw [HRN.out]; rfl, HE.out⟩
    · have hr := HRX.out x hx hpx hs
      have HR := Lib.hid (show PNx w t (sgnK (M.map ProcE.abs) pid 15) last (ownP t m M) w from by unfold sgnK; rw [hr]; exact PNx.same HP.out (Fr.refl _ _))
      have HRN := Lib.hid hr
      clear hr hpx hs
      go_wp2
      go_ret
      exact ⟨by rw [HRN.out]; rfl, HR.out⟩
  · clear hT hP0 hgood hbad
    go_enter Try.func42, Try.ntmps42
    go_wp2_with fail
    refine HF.out.mono ?_
    rintro e w2 ⟨rfl, ⟨hno, rfl⟩ | ⟨x, hx, hpx, ⟨hs, rfl⟩ | ⟨hs, rfl⟩⟩⟩
    · have hr := HRM.out hno
      have HR := Lib.hid (show PNx w t (sgnK (M.map ProcE.abs) pid 9) last (ownP t m M) w from by unfold sgnK; rw [hr]; exact PNx.same HP.out (Fr.refl _ _))
      have HRN := Lib.hid hr
      clear hno hr
      go_wp2
      go_ret
      exact ⟨by rw [HRN.out]; rfl, HR.out⟩
    · have hr := HRP.out x hx hpx hs
      have hbx := HT.out.ent x hx
      have f6 := hbx.frozen 6
      have f7 := hbx.frozen 7
      have f8 := hbx.frozen 8
      have c6 : w.cell? ⟨x.blk, 6, none⟩ = some (.int .i64 x.t.state) := hbx.cell 6
      have c7 : w.cell? ⟨x.blk, 7, none⟩ = some (.int .i64 x.t.code) := hbx.cell 7
      have c8 : w.cell? ⟨x.blk, 8, none⟩ = some (.int .i64 x.sig) := hbx.cell 8
      have HUP := Lib.hid (fun w' (x' : ProcE) hb hp hc hn hfx hf hblk => show PNx w t (sgnK (M.map ProcE.abs) pid 9) last (ownP t m M) w' from by
        unfold sgnK
        rw [hr, ← hpx]
        exact HT.out.upd hx (x' := x') hb hp hc hn (sgnF 9) hfx hf hblk)
      have HRN := Lib.hid hr
      have HBX := Lib.hid hbx
      clear hr hpx hs hbx
      cases g1 : (x.t.state == 0) with
      | false =>
        cases g2 : (x.sig != 9) with
        | false =>
          have HE := Lib.hid (HUP.out _ ⟨x.blk, x.t, x.sig⟩ rfl rfl rfl rfl (by simp [sgnF, ProcE.abs, TaskD.abs, g1, g2]) ((Fr.refl (fun i => i = x.blk) w)) (HBX.out))
          go_wp2
          go_ret
          exact ⟨by rw [HRN.out]; rfl, HE.out⟩
        | true =>
          have HE := Lib.hid (HUP.out _ ⟨x.blk, x.t, 9⟩ rfl rfl rfl rfl (by simp [sgnF, ProcE.abs, TaskD.abs, g1, g2]) (((Fr.refl (fun i => i = x.blk) w)).setCell (p := ⟨x.blk, 8, none⟩) (Or.inl rfl) (.int .i64 9)) ((HBX.out).set_ 8 (.int .i64 9)))
          go_wp2
          go_ret
          exact ⟨by rw [HRN.out]; rfl, HE.out⟩
      | true =>
        cases g2 : (x.sig != 9) with
        | false =>
          have HE := Lib.hid (HUP.out _ ⟨x.blk, { x.t with state := 2, code := 137 }, x.sig⟩ rfl rfl rfl rfl (by simp [sgnF, ProcE.abs, TaskD.abs, g1, g2]) (((Fr.refl (fun i => i = x.blk) w).setCell (p := ⟨x.blk, 6, none⟩) (Or.inl rfl) (.int .i64 2)).setCell (p := ⟨x.blk, 7, none⟩) (Or.inl rfl) (.int .i64 137)) ((HBX.out.set_ 6 (.int .i64 2)).set_ 7 (.int .i64 137)))
          go_wp2
          go_ret
          exact ⟨by rw [HRN.out]; rfl, HE.out⟩
        | true =>
          have HE := Lib.hid (HUP.out _ ⟨x.blk, { x.t with state := 2, code := 137 }, 9⟩ rfl rfl rfl rfl (by simp [sgnF, ProcE.abs, TaskD.abs, g1, g2]) ((((Fr.refl (fun i => i = x.blk) w).setCell (p := ⟨x.blk, 6, none⟩) (Or.inl rfl) (.int .i64 2)).setCell (p := ⟨x.blk, 7, none⟩) (Or.inl rfl) (.int .i64 137)).setCell (p := ⟨x.blk, 8, none⟩) (Or.inl rfl) (.int .i64 9)) (((HBX.out.set_ 6 (.int .i64 2)).set_ 7 (.int .i64 137)).set_ 8 (.int .i64 9)))
          go_wp2
          go_ret
          exact ⟨by rw [HRN.out]; rfl, HE.out⟩
    · have hr := HRX.out x hx hpx hs
      have HR := Lib.hid (show PNx w t (sgnK (M.map ProcE.abs) pid 9) last (ownP t m M) w from by unfold sgnK; rw [hr]; exact PNx.same HP.out (Fr.refl _ _))
      have HRN := Lib.hid hr
      clear hr hpx hs
      go_wp2
      go_ret
      exact ⟨by rw [HRN.out]; rfl, HR.out⟩

end Go.Proofs.Ytomoomopodihhaa
