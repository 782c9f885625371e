/-
  The table: Spawn.
-/
import Derived.Test.YtomoomopodihhaaPf
namespace Go.Proofs.Ytomoomopodihhaa
open Go.RowKit Go.Maps

def spnN (K : List (TaskD × Int)) (last : Int) (x : TaskD) : Int × Int := if !mayT x then (0, 1) else if K.length == 256 then (0, 6) else (last + 1, 0)
def spnT (last : Int) (x : TaskD) : TaskD × Int := ({ x.abs with pid := last + 1, state := 0, code := 0 }, 0)
def spnK (K : List (TaskD × Int)) (last : Int) (x : TaskD) : List (TaskD × Int) := if (spnN K last x).2 = 0 then K ++ [spnT last x] else K
def spnL (K : List (TaskD × Int)) (last : Int) (x : TaskD) : Int := if (spnN K last x).2 = 0 then last + 1 else last

theorem CoresOk.frL {S : Nat → Prop} {W W' : World} {cv : Value} {ns : List Int} (h : CoresOk W cv ns) (hf : Fr S W W') (hs : 0 < ns.length → ∀ g, cv.ownBlock = some g → ¬ S g) : CoresOk W' cv ns := by
  by_cases h0 : 0 < ns.length
  · exact h.fr hf (hs h0)
  · obtain ⟨A, cap, e, _⟩ := h.ints
    exact ⟨⟨A, cap, e, fun k hk => by omega⟩, h.cap, h.nil, h.le⟩

theorem TabAt.m_ne {w : World} {t m : Nat} {M : List ProcE} {last : Int} (h : TabAt w t m M last) : ¬ m = t := h.map.ne_blk h.blk
/-- A new process, in the map. -/
theorem TabAt.spawn {w wa w8 w9 : World} {t m : Nat} {M : List ProcE} {last : Int} (h : TabAt w t m M last) (hl : last < 100000) (hlen : M.length < 256) {x : TaskD} {v' : Value} {b : Nat} (hn : x.ns.length ≤ 100000)
    (h1 : Fr (fun i => i = t) w wa) (ht : Blk wa t 88 #[.map (some m), .int .i64 (last + 1)]) (hrow : wa.ownsRow w.heap.size 3 1 v' x.ns.length (rowI x.ns)) (h2 : Fr (fun _ => False) wa w8)
    (hb : Blk w8 b 92 (ProcE.cells ⟨b, { x with pid := last + 1, cv := v', state := 0, code := 0 }, 0⟩)) (hbn : w.heap.size ≤ b)
    (hm : MapL Try.prog 3 w9 m ((.int .i64 (last + 1), .pointer (some ⟨b, 0, none⟩)) :: (M.map pP).filter (fun p => !p.1.sameKey (.int .i64 (last + 1))))) (hg : w8.grownBy w9 (some m)) :
    PNx w t (M.map ProcE.abs ++ [spnT last x]) (last + 1) (ownP t m M) w9 := by
  have hmt : m ≠ t := h.map.ne_blk h.blk
  have hml := h.map.lt
  have htl := h.blk.lt
  have hFg : Fr (fun i => i = m) w8 w9 := Fr.of_grown hg (fun k hk => by cases hk; rfl)
  have hs1 := h1.size
  have hs2 := h2.size
  have hsa : Fr (fun i => i = t ∨ i = m) w w9 := ((h1.mono (S' := fun i => i = t ∨ i = m) (fun _ _ h => Or.inl h)).then (h2.mono (fun _ _ h => h.elim))).then (hFg.mono (fun _ _ h => Or.inr h))
  have hent : ∀ e ∈ M, e.blk ≠ t ∧ e.blk ≠ m := fun e he => by
    have h3 := h.ent e he
    exact ⟨fun e2 => absurd ((e2 ▸ h3).uniq h.blk).1 (by decide), fun e2 => h.map.ne_blk h3 e2.symm⟩
  have hcor : ∀ e ∈ M, ∀ k, e.t.cv.ownBlock = some k → k ≠ t ∧ k ≠ m := fun e he k hk => by
    obtain ⟨cur, hc⟩ := ownsRow_block (h.cor e he) hk
    refine ⟨fun e2 => ?_, fun e2 => ?_⟩
    · have h3 := h.blk
      unfold Blk at h3
      rw [← e2, hc] at h3
      cases h3
    · subst e2
      exact h.map.no_cells hc
  have hv : ∀ k, v'.ownBlock = some k → w.heap.size ≤ k := fun k hk => (hrow.lt k hk).1
  refine ⟨ownP t m (M ++ [⟨b, { x with pid := last + 1, cv := v', state := 0, code := 0 }, 0⟩]), ⟨m, _, ⟨(ht.fr h2 (fun h => h)).fr hFg (fun e => hmt e.symm), ?_, fun e he => ?_, fun e he => ?_, ?_, fun e he => ?_, fun e he => ?_, ?_, by have := h.lo; omega, by omega⟩, ?_, rfl⟩, ?_, ?_⟩
  · rw [List.map_append]
    have hf : (M.map pP).filter (fun p => !p.1.sameKey (.int .i64 (last + 1))) = M.map pP := List.filter_eq_self.2 fun p hp => by
      obtain ⟨e, he, rfl⟩ := List.mem_map.1 hp
      have := (h.rng e he).2
      simp only [pP, same_int]
      have : (e.t.pid == last + 1) = false := beq_eq_false_iff_ne.2 (by omega)
      rw [this]; rfl
    rw [hf] at hm
    exact hm.perm (List.perm_append_singleton _ _).symm
  · rcases List.mem_append.1 he with he | he
    · exact (h.ent e he).fr hsa (fun h3 => by have := hent e he; rcases h3 with h3 | h3 <;> simp_all)
    · rw [List.mem_singleton] at he; subst he
      exact hb.fr hFg (fun (e2 : b = m) => by omega)
  · rcases List.mem_append.1 he with he | he
    · exact ownsRow_fr (h.cor e he) hsa (fun k hk h3 => by have := hcor e he k hk; rcases h3 with h3 | h3 <;> simp_all)
    · rw [List.mem_singleton] at he; subst he
      exact ownsRow_base_a' (ownsRow_fr (ownsRow_fr hrow h2 (fun _ _ h => h)) hFg (fun k hk (e2 : k = m) => by have := hv k hk; omega)) (Nat.zero_le _)
  · rw [List.pairwise_append]
    refine ⟨h.srt, List.pairwise_singleton _ _, fun a ha c hc => ?_⟩
    rw [List.mem_singleton] at hc; subst hc
    have := (h.rng a ha).2
    show a.t.pid < last + 1
    omega
  · rcases List.mem_append.1 he with he | he
    · have := h.rng e he; omega
    · rw [List.mem_singleton] at he; subst he
      have := h.lo
      show 1 ≤ last + 1 ∧ last + 1 ≤ last + 1
      omega
  · rcases List.mem_append.1 he with he | he
    · exact h.nl e he
    · rw [List.mem_singleton] at he; subst he
      exact hn
  · rw [List.length_append, List.length_singleton]; omega
  · rw [List.map_append]; rfl
  · exact hsa.mono (fun i _ hi => by rcases hi with hi | hi; exact Or.inl hi; exact Or.inr (Or.inl hi))
  · rintro i (rfl | rfl | ⟨e, he, h4⟩)
    · exact Or.inl (Or.inl rfl)
    · exact Or.inl (Or.inr (Or.inl rfl))
    · rcases List.mem_append.1 he with he | he
      · exact Or.inl (Or.inr (Or.inr ⟨e, he, h4⟩))
      · rw [List.mem_singleton] at he; subst he
        rcases h4 with h4 | h4
        · exact Or.inr (h4 ▸ hbn)
        · exact Or.inr (hv i h4)

set_option maxRecDepth 20000 in
set_option maxHeartbeats 3000000 in
theorem spawn37_any (w : World) (t : Nat) (K : List (TaskD × Int)) (last : Int) (X : Nat → Prop) (h : PT w t K last X) (x : TaskD) (hx : CoresOk w x.cv x.ns) (hxX : 0 < x.ns.length → ∀ g, x.cv.ownBlock = some g → ¬ X g) (hl : last < 100000) :
    Calls Try.prog 37 #[.pointer (some ⟨t, 0, none⟩), x.val] w fun e w' => e = .returned (.tuple #[.int .i64 (spnN K last x).1, .int .i64 (spnN K last x).2]) ∧ PNx w t (spnK K last x) (spnL K last x) X w' := by
  have hP0 := h
  obtain ⟨m, M, hT, rfl, rfl⟩ := h
  obtain ⟨pid, job, epoch, step, rank, cv, ns, state, code⟩ := x
  have hf0 := (Fr.refl (fun _ => False) w).alloc (.cells #[.int .i64 pid, .int .i64 job, .int .i64 epoch, .int .i64 step, .int .i64 rank, cv, .int .i64 state, .int .i64 code] 61)
  have hm := may57_any _ ⟨pid, job, epoch, step, rank, cv, ns, state, code⟩ (hx.fr0 hf0)
  have hT0 := hT.fr0 hf0
  have HB := Lib.hid (Blk.new w 61 #[.int .i64 pid, .int .i64 job, .int .i64 epoch, .int .i64 step, .int .i64 rank, cv, .int .i64 state, .int .i64 code])
  have HP0 := Lib.hid hP0
  simp only [TaskD.val] at *
  by_cases hmay : mayT ⟨pid, job, epoch, step, rank, cv, ns, state, code⟩ = true
  · rw [hmay] at hm
    have HM := Lib.hid hm
    have HT := Lib.hid hT0
    have HF := Lib.hid hf0
    have y := fun i => HB.out.cell i
    by_cases hfull : M.length = 256
    · have hr : spnN (M.map ProcE.abs) last ⟨pid, job, epoch, step, rank, cv, ns, state, code⟩ = (0, 6) := by
        unfold spnN; rw [hmay, List.length_map, hfull]; rfl
      have HRN := Lib.hid hr
      have HR := Lib.hid (fun w' (hf : Fr (fun _ => False) w w') => show PNx w t (spnK (M.map ProcE.abs) last ⟨pid, job, epoch, step, rank, cv, ns, state, code⟩) (spnL (M.map ProcE.abs) last ⟨pid, job, epoch, step, rank, cv, ns, state, code⟩) (ownP t m M) w' from by
        unfold spnK spnL; rw [hr]; exact PNx.same HP0.out hf)
      clear hm hT0 hf0 hT hP0 hr hxX
      go_enter Try.func37, Try.ntmps37
      go_wp2_with fail
      refine HM.out.mono ?_
      rintro e w1 ⟨rfl, hf1⟩
      clear y
      have hT1 := HT.out.fr0 hf1
      have c0 := hT1.c0
      have hlen := hT1.map.length Try.underlying86 3
      rw [List.length_map, hfull] at hlen
      have HF1 := Lib.hid (HF.out.then hf1)
      clear hT1 hf1
      go_wp2
      go_ret2
      exact ⟨by rw [HRN.out]; rfl, HR.out _ HF1.out⟩
    · have hr : spnN (M.map ProcE.abs) last ⟨pid, job, epoch, step, rank, cv, ns, state, code⟩ = (last + 1, 0) := by
        unfold spnN
        rw [hmay, List.length_map, show (M.length == 256) = false by simpa using hfull]; rfl
      have HRN := Lib.hid hr
      have hle := hT.le
      have hlo := hT.lo
      have HRK := Lib.hid (show spnK (M.map ProcE.abs) last ⟨pid, job, epoch, step, rank, cv, ns, state, code⟩ = M.map ProcE.abs ++ [spnT last ⟨pid, job, epoch, step, rank, cv, ns, state, code⟩] ∧ spnL (M.map ProcE.abs) last ⟨pid, job, epoch, step, rank, cv, ns, state, code⟩ = last + 1 from by unfold spnK spnL; rw [hr]; exact ⟨rfl, rfl⟩)
      have hns : 0 < ns.length := by
        unfold mayT at hmay
        simp only [Bool.and_eq_true, decide_eq_true_eq] at hmay
        exact hmay.2.2.2.2.2
      have HXX := Lib.hid (fun g (hg : cv.ownBlock = some g) => show g ≠ t from fun e => hxX hns g hg (Or.inl e))
      have HXB := Lib.hid (fun g (hg : cv.ownBlock = some g) => show g ≠ w.heap.size from fun e => by
        obtain ⟨A, cap, rfl⟩ := hx.ints.sh
        obtain ⟨b, off, rfl, hc⟩ := hx.ints.el hns
        have h1 := World.block_lt_of_cell? w _ hc
        have h2 : b = g := by simpa [Value.ownBlock] using hg
        simp only at h1
        omega)
      have HX := Lib.hid hx
      have HTW := Lib.hid hT
      have htl := hT.blk.lt
      have htB : t ≠ w.heap.size := by omega
      have HSP := Lib.hid (fun wa w8 w9 v' b h1 ht hrow h2 hb hbn hm hg => hT.spawn (wa := wa) (w8 := w8) (w9 := w9) (x := ⟨pid, job, epoch, step, rank, cv, ns, state, code⟩) (v' := v') (b := b) hl (by omega) hx.le h1 ht hrow h2 hb hbn hm hg)
      clear hm hT0 hf0 hT hP0 hr hxX hx hmay
      go_enter Try.func37, Try.ntmps37
      go_wp2_with fail
      refine HM.out.mono ?_
      rintro e w1 ⟨rfl, hf1⟩
      clear y
      have hT1 := HT.out.fr0 hf1
      have hb1 := HB.out.fr hf1 (fun h => h)
      have c0 := hT1.c0
      have c1 := hT1.c1
      have ft := hT1.blk.frozen 1
      have hlen := hT1.map.length Try.underlying86 3
      rw [List.length_map] at hlen
      have b1 : ((M.length : Int) == 256) = false := by simp; omega
      obtain ⟨y0, y1, y2, y3, y4, y5, y6, y7⟩ := tc hb1
      have fz := fun i => hb1.frozen i
      have hW1 : Fr (fun i => i = t) w ((((w1.setCell ⟨t, 1, none⟩ (.int .i64 (last + 1))).setCell ⟨w.heap.size, 0, none⟩ (.int .i64 (last + 1))).setCell ⟨w.heap.size, 6, none⟩ (.int .i64 0)).setCell ⟨w.heap.size, 7, none⟩ (.int .i64 0)) :=
        ((((((HF.out.then hf1).mono (S' := fun i => i = t) (fun _ _ h => h.elim)).setCell (p := ⟨t, 1, none⟩) (Or.inl rfl) _).setCell (p := ⟨w.heap.size, 0, none⟩) (Or.inr (Nat.le_refl _)) _).setCell (p := ⟨w.heap.size, 6, none⟩) (Or.inr (Nat.le_refl _)) _).setCell (p := ⟨w.heap.size, 7, none⟩) (Or.inr (Nat.le_refl _)) _)
      have hb4 : Blk ((((w1.setCell ⟨t, 1, none⟩ (.int .i64 (last + 1))).setCell ⟨w.heap.size, 0, none⟩ (.int .i64 (last + 1))).setCell ⟨w.heap.size, 6, none⟩ (.int .i64 0)).setCell ⟨w.heap.size, 7, none⟩ (.int .i64 0)) w.heap.size 61 #[.int .i64 (last + 1), .int .i64 job, .int .i64 epoch, .int .i64 step, .int .i64 rank, cv, .int .i64 0, .int .i64 0] :=
        (((hb1.far (p := ⟨t, 1, none⟩) (Ne.symm htB) (.int .i64 (last + 1))).set_ 0 (.int .i64 (last + 1))).set_ 6 (.int .i64 0)).set_ 7 (.int .i64 0)
      have ht4 : Blk ((((w1.setCell ⟨t, 1, none⟩ (.int .i64 (last + 1))).setCell ⟨w.heap.size, 0, none⟩ (.int .i64 (last + 1))).setCell ⟨w.heap.size, 6, none⟩ (.int .i64 0)).setCell ⟨w.heap.size, 7, none⟩ (.int .i64 0)) t 88 #[.map (some m), .int .i64 (last + 1)] :=
        (((hT1.blk.set_ 1 (.int .i64 (last + 1))).far (p := ⟨w.heap.size, 0, none⟩) htB _).far (p := ⟨w.heap.size, 6, none⟩) htB _).far (p := ⟨w.heap.size, 7, none⟩) htB _
      have C56 := Lib.hid (clone56_any _ cv ns (HX.out.fr hW1 (fun g hg => HXX.out g hg)))
      have HW1 := Lib.hid hW1
      have HB4 := Lib.hid hb4
      have HT4 := Lib.hid ht4
      clear hW1 hb4 ht4
      go_wp2_with fail
      generalize ((((w1.setCell ⟨t, 1, none⟩ (.int .i64 (last + 1))).setCell ⟨w.heap.size, 0, none⟩ (.int .i64 (last + 1))).setCell ⟨w.heap.size, 6, none⟩ (.int .i64 0)).setCell ⟨w.heap.size, 7, none⟩ (.int .i64 0)) = W4 at *
      refine C56.out.mono ?_
      rintro e w5 ⟨v', rfl, hrow5, hf5⟩
      obtain ⟨A9, cap9, rfl⟩ := row_shape hrow5
      have hb5 := HB4.out.fr hf5 (fun h => h)
      have f5 := hb5.frozen 5
      have d5 : w5.cell? ⟨w.heap.size, 5, none⟩ = some cv := hb5.cell 5
      have hb6 : Blk (w5.setCell ⟨w.heap.size, 5, none⟩ (.slice A9 ns.length cap9)) w.heap.size 61 #[.int .i64 (last + 1), .int .i64 job, .int .i64 epoch, .int .i64 step, .int .i64 rank, (.slice A9 ns.length cap9), .int .i64 0, .int .i64 0] := hb5.set_ 5 (.slice A9 ns.length cap9)
      have ht6 := (HT4.out.fr hf5 (fun h => h)).far (p := ⟨w.heap.size, 5, none⟩) htB (.slice A9 ns.length cap9)
      have hF6 := ((HW1.out.then (hf5.mono (fun _ _ h => h.elim))).setCell (p := ⟨w.heap.size, 5, none⟩) (Or.inr (Nat.le_refl _)) (.slice A9 ns.length cap9))
      have hrow6 := ownsRow_base_a' (ownsRow_fr hrow5 ((Fr.refl (fun i => i = w.heap.size) w5).setCell (p := ⟨w.heap.size, 5, none⟩) (Or.inl rfl) (.slice A9 ns.length cap9)) (fun k hk e => by have := (hrow5.lt k hk).1; have := HB4.out.lt; omega)) (HW1.out.size)
      have HB6 := Lib.hid hb6
      have HT6 := Lib.hid ht6
      have HF6 := Lib.hid hF6
      have HR6 := Lib.hid hrow6
      have hmp6 := (HTW.out.map.fr hF6 HTW.out.m_ne)
      have HM6 := Lib.hid hmp6
      clear y0 y1 y2 y3 y4 y5 y6 y7 fz c0 c1 ft hT1 hb1 hlen hb5 hb6 ht6 hF6 hrow6 hrow5 hf5 hmp6
      go_wp2_with fail
      generalize hW6 : w5.setCell ⟨w.heap.size, 5, none⟩ (.slice A9 ns.length cap9) = W6 at *
      obtain ⟨y0, y1, y2, y3, y4, y5, y6, y7⟩ := tc HB6.out
      have z0 : W6.cell? ⟨t, 0, none⟩ = some (.map (some m)) := HT6.out.cell 0
      have z1 : W6.cell? ⟨t, 1, none⟩ = some (.int .i64 (last + 1)) := HT6.out.cell 1
      have hfa : Fr (fun _ => False) W6 ((W6.alloc (.cells #[.int .i64 (last + 1), .int .i64 job, .int .i64 epoch, .int .i64 step, .int .i64 rank, .slice A9 ns.length cap9, .int .i64 0, .int .i64 0, .int .i64 0] 92)).drew) := ((Fr.refl _ W6).alloc _).drew
      have HFA := Lib.hid hfa
      have hb8 : Blk ((W6.alloc (.cells #[.int .i64 (last + 1), .int .i64 job, .int .i64 epoch, .int .i64 step, .int .i64 rank, .slice A9 ns.length cap9, .int .i64 0, .int .i64 0, .int .i64 0] 92)).drew) W6.heap.size 92 #[.int .i64 (last + 1), .int .i64 job, .int .i64 epoch, .int .i64 step, .int .i64 rank, .slice A9 ns.length cap9, .int .i64 0, .int .i64 0, .int .i64 0] := (Blk.new W6 92 _).fr (Fr.refl (fun _ => False) _).drew (fun h => h)
      have HB8 := Lib.hid hb8
      have x0 := (HT6.out.fr hfa (fun h => h)).cell 0
      have x1 : World.cell? _ ⟨t, 1, none⟩ = some (.int .i64 (last + 1)) := (HT6.out.fr hfa (fun h => h)).cell 1
      have x0' : World.cell? _ ⟨t, 0, none⟩ = some (.map (some m)) := (HT6.out.fr hfa (fun h => h)).cell 0
      obtain ⟨u0, u1, u2, u3, u4, u5, u6, u7⟩ := tc (HB6.out.fr hfa (fun h => h))
      obtain ⟨w9, hrun, hm9, hg9⟩ := (HM6.out.fr hfa (fun h => h)).store law3 Try.underlying86 (by rw [List.length_map]; unfold maxLen; omega) (key3 (n := last + 1) (by unfold wf64; omega)) (val := .pointer (some ⟨W6.heap.size, 0, none⟩))
      have c9 : w9.cell? ⟨t, 1, none⟩ = some (.int .i64 (last + 1)) := ((HT6.out.fr hfa (fun h => h)).grown hg9 (by intro e; have := HTW.out.m_ne; exact this (by cases e; rfl))).cell 1
      have HM9 := Lib.hid hm9
      have HG9 := Lib.hid hg9
      clear hfa hb8 hm9 hg9 x0
      go_region
      go_wp2
      go_ret2
      refine ⟨by rw [HRN.out]; rfl, ?_⟩
      rw [HRK.out.1, HRK.out.2]
      exact HSP.out W6 _ w9 _ W6.heap.size HF6.out HT6.out HR6.out HFA.out HB8.out HF6.out.size HM9.out HG9.out
  · have hmay : mayT ⟨pid, job, epoch, step, rank, cv, ns, state, code⟩ = false := by simpa using hmay
    rw [hmay] at hm
    have hr : spnN (M.map ProcE.abs) last ⟨pid, job, epoch, step, rank, cv, ns, state, code⟩ = (0, 1) := by
      unfold spnN; rw [hmay]; rfl
    have HRN := Lib.hid hr
    have HR := Lib.hid (fun w' (hf : Fr (fun _ => False) w w') => show PNx w t (spnK (M.map ProcE.abs) last ⟨pid, job, epoch, step, rank, cv, ns, state, code⟩) (spnL (M.map ProcE.abs) last ⟨pid, job, epoch, step, rank, cv, ns, state, code⟩) (ownP t m M) w' from by
      unfold spnK spnL; rw [hr]; exact PNx.same HP0.out hf)
    have HM := Lib.hid hm
    have HF := Lib.hid hf0
    have y := fun i => HB.out.cell i
    clear hm hT0 hf0 hT hP0 hr hxX
    go_enter Try.func37, Try.ntmps37
    go_wp2_with fail
    refine HM.out.mono ?_
    rintro e w1 ⟨rfl, hf1⟩
    have HF1 := Lib.hid (HF.out.then hf1)
    clear y hf1
    go_wp2
    go_ret2
    exact ⟨by rw [HRN.out]; rfl, HR.out _ HF1.out⟩

end Go.Proofs.Ytomoomopodihhaa
