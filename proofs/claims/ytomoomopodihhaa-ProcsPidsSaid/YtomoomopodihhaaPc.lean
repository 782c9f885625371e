/-
  Tasks that are the same; Clone.
-/
import Derived.Test.YtomoomopodihhaaPb
import Derived.Maps.AppendAt
import Derived.WalkLawsBesides
namespace Go.Proofs.Ytomoomopodihhaa
open Go.RowKit Go.Maps

theorem tc {W : World} {g : Nat} {a0 a1 a2 a3 a4 a5 a6 a7 : Value} (h : Blk W g 61 #[a0, a1, a2, a3, a4, a5, a6, a7]) :
    W.cell? ⟨g, 0, none⟩ = some a0 ∧ W.cell? ⟨g, 1, none⟩ = some a1 ∧ W.cell? ⟨g, 2, none⟩ = some a2 ∧ W.cell? ⟨g, 3, none⟩ = some a3 ∧ W.cell? ⟨g, 4, none⟩ = some a4 ∧ W.cell? ⟨g, 5, none⟩ = some a5 ∧ W.cell? ⟨g, 6, none⟩ = some a6 ∧ W.cell? ⟨g, 7, none⟩ = some a7 :=
  ⟨h.cell 0, h.cell 1, h.cell 2, h.cell 3, h.cell 4, h.cell 5, h.cell 6, h.cell 7⟩

set_option maxRecDepth 20000 in
set_option maxHeartbeats 2000000 in
theorem one38_true (w : World) (x : TaskD) (cv2 : Value) (h : CoresOk w x.cv x.ns) (h2 : CoresOk w cv2 x.ns) :
    Calls Try.prog 38 #[x.val, { x with cv := cv2 }.val] w fun e w' => e = .returned (.bool true) ∧ Fr (fun _ => False) w w' := by
  obtain ⟨pid, job, epoch, step, rank, cv, ns, state, code⟩ := x
  simp only [TaskD.val] at *
  have hf : Fr (fun _ => False) w ((w.alloc (.cells #[.int .i64 pid, .int .i64 job, .int .i64 epoch, .int .i64 step, .int .i64 rank, cv, .int .i64 state, .int .i64 code] 61)).alloc (.cells #[.int .i64 pid, .int .i64 job, .int .i64 epoch, .int .i64 step, .int .i64 rank, cv2, .int .i64 state, .int .i64 code] 61)) := ((Fr.refl _ w).alloc _).alloc _
  have HS := Lib.hid (same_any _ cv cv2 ns ns (h.fr0 hf).ints (h2.fr0 hf).ints (by have := h.le; unfold maxLen; omega) (by have := h.le; unfold maxLen; omega) true (Lib.hid (by simp)))
  have HF := Lib.hid hf
  have e0 : (pid == pid) = true := by simp
  have e1 : (job == job) = true := by simp
  have e2 : (epoch == epoch) = true := by simp
  have e3 : (step == step) = true := by simp
  have e4 : (rank == rank) = true := by simp
  have e5 : (state == state) = true := by simp
  have e6 : (code == code) = true := by simp
  obtain ⟨A, cap, rfl⟩ := h.ints.sh
  obtain ⟨A2, cap2, rfl⟩ := h2.ints.sh
  clear h h2 hf
  go_enter Try.func38, Try.ntmps38
  go_wp2_with fail
  refine HS.out.mono ?_
  rintro e w1 ⟨rfl, hf1⟩
  go_wp2
  go_ret
  exact ⟨rfl, HF.out.then hf1⟩

set_option maxRecDepth 20000 in
set_option maxHeartbeats 4000000 in
theorem one38_any (w : World) (x y : TaskD) (h : CoresOk w x.cv x.ns) (h2 : CoresOk w y.cv y.ns) :
    Calls Try.prog 38 #[x.val, y.val] w fun e w' => ∃ b, e = .returned (.bool b) ∧ Fr (fun _ => False) w w' := by
  obtain ⟨pid, job, epoch, step, rank, cv, ns, state, code⟩ := x
  obtain ⟨pid2, job2, epoch2, step2, rank2, cv2, ns2, state2, code2⟩ := y
  simp only [TaskD.val] at *
  have hf : Fr (fun _ => False) w ((w.alloc (.cells #[.int .i64 pid, .int .i64 job, .int .i64 epoch, .int .i64 step, .int .i64 rank, cv, .int .i64 state, .int .i64 code] 61)).alloc (.cells #[.int .i64 pid2, .int .i64 job2, .int .i64 epoch2, .int .i64 step2, .int .i64 rank2, cv2, .int .i64 state2, .int .i64 code2] 61)) := ((Fr.refl _ w).alloc _).alloc _
  have HS := Lib.hid (same_any _ cv cv2 ns ns2 (h.fr0 hf).ints (h2.fr0 hf).ints (by have := h.le; unfold maxLen; omega) (by have := h2.le; unfold maxLen; omega) _ (Lib.hid rfl))
  have HF := Lib.hid hf
  obtain ⟨A, cap, rfl⟩ := h.ints.sh
  obtain ⟨A2, cap2, rfl⟩ := h2.ints.sh
  generalize decide (ns = ns2) = bb at *
  clear h h2 hf
  cases e0 : (pid == pid2) with
  | false =>
    go_enter Try.func38, Try.ntmps38
    go_wp2
    go_ret
    exact ⟨_, rfl, HF.out⟩
  | true =>
    cases e1 : (job == job2) with
    | false =>
      go_enter Try.func38, Try.ntmps38
      go_wp2
      go_ret
      exact ⟨_, rfl, HF.out⟩
    | true =>
      cases e2 : (epoch == epoch2) with
      | false =>
        go_enter Try.func38, Try.ntmps38
        go_wp2
        go_ret
        exact ⟨_, rfl, HF.out⟩
      | true =>
        cases e3 : (step == step2) with
        | false =>
          go_enter Try.func38, Try.ntmps38
          go_wp2
          go_ret
          exact ⟨_, rfl, HF.out⟩
        | true =>
          cases e4 : (rank == rank2) with
          | false =>
            go_enter Try.func38, Try.ntmps38
            go_wp2
            go_ret
            exact ⟨_, rfl, HF.out⟩
          | true =>
            cases e5 : (state == state2) with
            | false =>
              go_enter Try.func38, Try.ntmps38
              go_wp2
              go_ret
              exact ⟨_, rfl, HF.out⟩
            | true =>
              cases e6 : (code == code2) with
              | false =>
                go_enter Try.func38, Try.ntmps38
                go_wp2
                go_ret
                exact ⟨_, rfl, HF.out⟩
              | true =>
                go_enter Try.func38, Try.ntmps38
                go_wp2_with fail
                refine HS.out.mono ?_
                rintro e w1 ⟨rfl, hf1⟩
                go_wp2
                go_ret
                exact ⟨_, rfl, HF.out.then hf1⟩

theorem info3 : (Try.prog.info? 3).map (fun i => (i.zero, i.size, i.bytes)) = some (some (.int .i64 0), 1, 8) := by kernel_rfl

theorem IntsV.news {W : World} {ad : Addr} {cap : Nat} {L : List Int} (h : IntsV W (.slice (some ad) L.length cap) L) : ∀ j u, (L.map fun x => Value.int .i64 x)[j]? = some u → W.cell? (ad.add j) = some u := by
  intro j u hu
  obtain ⟨A', c', e, hc⟩ := h
  cases e
  have hj : j < L.length := by
    have := (List.getElem?_eq_some_iff.1 hu).1
    simpa using this
  obtain ⟨b, off, e1, h2⟩ := hc j hj
  cases e1
  rw [List.getElem?_map, List.getElem?_eq_getElem hj] at hu
  have hu : Value.int .i64 L[j] = u := by simpa using hu
  rw [← hu, ← h2]
  by_cases hj0 : j = 0
  · subst hj0; simp [Addr.add]
  · simp [Addr.add, hj0]

theorem eq_nil0 (W : World) : (binOp .eql 45 (.slice none 0 0) (.slice none 0 0)).run Try.prog W = .ok (.bool true) W := by kernel_rfl
theorem eq_nil1 (W : World) (ad : Addr) (n cap : Nat) : (binOp .eql 45 (.slice (some ad) n cap) (.slice none 0 0)).run Try.prog W = .ok (.bool false) W := by kernel_rfl

theorem empty_row (W : World) (base : Nat) (hB : base ≤ W.heap.size) : (W.alloc (.cells #[] 3)).ownsRow base 3 1 (.slice (some ⟨W.heap.size, 0, none⟩) 0 0) 0 [] := by
  refine ⟨rfl, Or.inr ⟨W.heap.size, 0, #[], rfl, hB, heap_alloc_new W _, ?_⟩⟩
  simp [maxLen]

set_option maxRecDepth 20000 in
set_option maxHeartbeats 1000000 in
theorem clone56_any (w : World) (cv : Value) (ns : List Int) (h : CoresOk w cv ns) :
    Calls Try.prog 56 #[cv] w fun e w' => ∃ v', e = .returned v' ∧ w'.ownsRow w.heap.size 3 1 v' ns.length (ns.map fun x => .int .i64 x) ∧ Fr (fun _ => False) w w' := by
  obtain ⟨i0, hi, hz0, hz1, hz2⟩ := info_parts info3
  obtain ⟨A, cap, rfl⟩ := h.ints.sh
  have hle := h.le
  cases A with
  | none =>
    obtain rfl : cap = 0 := h.nil _ _ rfl
    obtain rfl : ns = [] := by
      cases ns with
      | nil => rfl
      | cons a r =>
        obtain ⟨b, off, e, _⟩ := h.ints.el (k := 0) (by simp)
        cases e
    clear h
    have q0 := fun W => eq_nil0 W
    go_enter Try.func56, Try.ntmps56
    go_wp2
    go_ret
    exact ⟨_, rfl, World.ownsRow_nil _ _ _ _, Fr.refl _ _⟩
  | some ad =>
    have hrow := empty_row w w.heap.size (Nat.le_refl _)
    have hnw := (h.fr0 ((Fr.refl _ w).alloc (.cells #[] 3))).ints.news
    clear h
    have q0 := fun W => eq_nil1 W ad ns.length cap
    go_enter Try.func56, Try.ntmps56
    go_wp2_with (at_builtin; refine wpList_append_own_at _ rfl _ _ 45 rfl w.heap.size 3 i0 (.int .i64 0) 1 8 Try.underlying45 hi hz0 hz1 hz2 rfl (by decide) _ _ _ rfl hrow ad ns.length cap (ns.map fun x => .int .i64 x) rfl (by simp) hnw (by intro u hu; obtain ⟨x, _, rfl⟩ := List.mem_map.1 hu; rfl) (by unfold maxLen; omega) (by omega) (by simp only [World.size_alloc]; omega) ?_; intro v' w7 hown1 hgrow1 hne1 hat1)
    go_ret
    refine ⟨_, rfl, ?_, ?_⟩
    · simpa using hown1
    · exact ((Fr.refl (fun _ => False) w).alloc _).grown hgrow1 (fun k hk => by
        have hk' : (Value.slice (some ⟨w.heap.size, 0, none⟩) 0 0).ownBlock = some k := hk
        cases hk'
        exact Or.inr (Nat.le_refl _))

end Go.Proofs.Ytomoomopodihhaa
