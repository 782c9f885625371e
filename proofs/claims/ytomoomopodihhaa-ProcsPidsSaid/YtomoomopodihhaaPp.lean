/-
  The reference's table: Reap.
-/
import Derived.Test.YtomoomopodihhaaPo
namespace Go.Proofs.Ytomoomopodihhaa
open Go.RowKit Go.Maps

theorem Fr.set8 {S : Nat → Prop} {a w : World} {g : Nat} (h : Fr S a w) (hg : S g ∨ a.heap.size ≤ g) (u0 u1 u2 u3 u4 u5 u6 u7 : Value) :
    Fr S a ((((((((w.setCell ⟨g, 0, none⟩ u0).setCell ⟨g, 1, none⟩ u1).setCell ⟨g, 2, none⟩ u2).setCell ⟨g, 3, none⟩ u3).setCell ⟨g, 4, none⟩ u4).setCell ⟨g, 5, none⟩ u5).setCell ⟨g, 6, none⟩ u6).setCell ⟨g, 7, none⟩ u7) :=
  (((((((h.setCell (p := ⟨g, 0, none⟩) hg u0).setCell (p := ⟨g, 1, none⟩) hg u1).setCell (p := ⟨g, 2, none⟩) hg u2).setCell (p := ⟨g, 3, none⟩) hg u3).setCell (p := ⟨g, 4, none⟩) hg u4).setCell (p := ⟨g, 5, none⟩) hg u5).setCell (p := ⟨g, 6, none⟩) hg u6).setCell (p := ⟨g, 7, none⟩) hg u7

/-- What 'Reap' tells, weakly. -/
def TaskPost (w : World) (k n : Nat) (Y : Nat → Prop) (e : Ending) (w' : World) : Prop := ∃ (x : TaskD) (c : Int), e = .returned (.tuple #[x.val, .int .i64 c]) ∧ CoresOk w' x.cv x.ns ∧ RNx w k n Y w'

/-- Between two rounds: what is kept. -/
def KeepRel (w2 : World) (T : List TaskD) (lv sv i : Value) (wr : World) : Prop :=
  ∃ (j : Nat) (T2 : List TaskD) (G2 : List Int), j ≤ T.length ∧ i = .int .i64 j ∧ T2.length = G2.length ∧ T2.length ≤ j ∧ (∀ x ∈ T2, x ∈ T) ∧ wr.ownsRow w2.heap.size 61 8 lv T2.length (T2.flatMap TaskD.cells) ∧ wr.ownsRow w2.heap.size 3 1 sv G2.length (rowI G2) ∧ Fr (fun _ => False) w2 wr

theorem KeepRel.push {w2 wr wa wb wc wd : World} {T T2 : List TaskD} {G2 : List Int} {lv sv lv' sv' : Value} {j : Nat} {x : TaskD} {s : Int} (hj : j < T.length) (hl : T2.length = G2.length) (hlj : T2.length ≤ j) (hm : ∀ y ∈ T2, y ∈ T) (hx : x ∈ T)
    (hrow : wr.ownsRow w2.heap.size 61 8 lv T2.length (T2.flatMap TaskD.cells)) (hsig : wr.ownsRow w2.heap.size 3 1 sv G2.length (rowI G2)) (hf : Fr (fun _ => False) w2 wr)
    (h1 : Fr (fun _ => False) wr wa) (hown1 : wb.ownsRow w2.heap.size 61 8 lv' (T2.length + 1) (T2.flatMap TaskD.cells ++ x.cells)) (hg1 : wa.grownBy wb lv.ownBlock)
    (h2 : Fr (fun _ => False) wb wc) (hown2 : wd.ownsRow w2.heap.size 3 1 sv' (G2.length + 1) (rowI G2 ++ [.int .i64 s])) (hg2 : wc.grownBy wd sv.ownBlock) :
    KeepRel w2 T lv' sv' (.int .i64 (j + 1 : Nat)) wd := by
  have F1 : Fr (fun b => lv.ownBlock = some b) wa wb := Fr.of_grown hg1 (fun k hk => hk)
  have F2 : Fr (fun b => sv.ownBlock = some b) wc wd := Fr.of_grown hg2 (fun k hk => hk)
  have hsa := ownsRow_fr hsig h1 (fun _ _ h => h)
  have hra := ownsRow_fr hrow h1 (fun _ _ h => h)
  have hsb := ownsRow_fr hsa F1 (fun b hb e => row_apart hra hsa (by decide) e hb)
  have hsc := ownsRow_fr hsb h2 (fun _ _ h => h)
  have hrc := ownsRow_fr hown1 h2 (fun _ _ h => h)
  have hrd := ownsRow_fr hrc F2 (fun b hb e => row_apart hsc hrc (by decide) e hb)
  refine ⟨j + 1, T2 ++ [x], G2 ++ [s], hj, rfl, by simp [hl], by simp; omega, fun y hy => ?_, ?_, ?_, ((((hf.then h1).grown hg1 (fun k hk => Or.inr (hrow.lt k hk).1)).then h2).grown hg2 (fun k hk => Or.inr (hsig.lt k hk).1))⟩
  · rcases List.mem_append.1 hy with hy | hy
    · exact hm y hy
    · rw [List.mem_singleton] at hy; subst hy; exact hx
  · rw [List.length_append, List.flatMap_append, List.flatMap_singleton]
    exact hrd
  · rw [List.length_append]
    unfold rowI
    rw [List.map_append]
    exact hown2


theorem RTab.kept {W2 wr : World} {k : Nat} {lv sv lv' sv' : Value} {N : Int} {T T2 : List TaskD} {G G2 : List Int} (h0 : RTab W2 k lv sv N T G) (h : RTab wr k lv sv N T G) (hm : ∀ x ∈ T2, x ∈ T) (hl : T2.length = G2.length)
    (hrow : wr.ownsRow W2.heap.size 61 8 lv' T2.length (T2.flatMap TaskD.cells)) (hsig : wr.ownsRow W2.heap.size 3 1 sv' G2.length (rowI G2)) :
    RTab ((wr.setCell ⟨k, 0, none⟩ lv').setCell ⟨k, 1, none⟩ sv') k lv' sv' N T2 G2 := by
  have hk := h0.blk.lt
  have hF : Fr (fun b => b = k) wr ((wr.setCell ⟨k, 0, none⟩ lv').setCell ⟨k, 1, none⟩ sv') := ((Fr.refl (fun b => b = k) wr).setCell (p := ⟨k, 0, none⟩) (Or.inl rfl) _).setCell (p := ⟨k, 1, none⟩) (Or.inl rfl) _
  refine ⟨(h.blk.set_ 0 lv').set_ 1 sv', ownsRow_base_a' (ownsRow_fr hrow hF (fun b hb e => by have := (hrow.lt b hb).1; omega)) (Nat.zero_le _), ownsRow_base_a' (ownsRow_fr hsig hF (fun b hb e => by have := (hsig.lt b hb).1; omega)) (Nat.zero_le _), hl.symm, fun x hx => ownsRow_fr (h.cor x (hm x hx)) hF (fun b hb e => ?_), fun x hx => h.nl x (hm x hx), fun x hx b hb e => ?_⟩
  · obtain ⟨cur, hc⟩ := ownsRow_block (h.cor x (hm x hx)) hb
    have h3 := h.blk
    unfold Blk at h3
    rw [← e, hc] at h3
    cases h3
  · have h1 := ((h0.cor x (hm x hx)).lt b hb).2
    have h2 := (hsig.lt b e).1
    omega

set_option maxRecDepth 20000 in
set_option maxHeartbeats 2000000 in
theorem rreap54_any (w : World) (k n : Nat) (Y : Nat → Prop) (h : RT w k n Y) (hn : n ≤ 1000) (pid : Int) :
    Calls Try.prog 54 #[.pointer (some ⟨k, 0, none⟩), .int .i64 pid] w (TaskPost w k n Y) := by
  have HS := Lib.hid (fun w' (hf : Fr (fun _ => False) w w') => RNx.same h hf)
  obtain ⟨i0, gi, gz0, gz1, gz2⟩ := info_parts info61
  obtain ⟨j0, ji, jz0, jz1, jz2⟩ := info_parts info3
  obtain ⟨lv, sv, N, T, G, hR, h2, h3, h4, rfl⟩ := h
  have hf0 := (Fr.refl (fun _ => False) w).alloc (.cells #[.int .i64 0, .int .i64 0, .int .i64 0, .int .i64 0, .int .i64 0, .slice none 0 0, .int .i64 0, .int .i64 0] 61)
  have HA := Lib.hid (at66_any _ k lv sv N T G (hR.fr0 hf0) (by omega) pid)
  have HR := Lib.hid hR
  have HB := Lib.hid (Blk.new w 61 #[.int .i64 0, .int .i64 0, .int .i64 0, .int .i64 0, .int .i64 0, .slice none 0 0, .int .i64 0, .int .i64 0])
  have HF0 := Lib.hid hf0
  have HWE := Lib.hid (fun w' (c : Int) (hf : Fr (fun _ => False) w w') => (⟨zeroT, c, rfl, coresOk_nil w', HS.out w' hf⟩ : TaskPost w k n (ownR k lv sv T) (.returned (.tuple #[zeroT.val, .int .i64 c])) w'))
  clear hR hf0
  go_enter Try.func54, Try.ntmps54
  go_wp2_with fail
  refine HA.out.mono ?_
  rintro e w1 ⟨hf, rfl | ⟨i, hi, rfl⟩⟩
  · have HE := Lib.hid (HF0.out.then hf)
    have hb1 := HB.out.fr hf (fun h => h)
    obtain ⟨y0, y1, y2, y3, y4, y5, y6, y7⟩ := tc hb1
    have fz := fun i => hb1.frozen i
    clear hf
    have HE8 := Lib.hid (HWE.out _ 1 (HE.out.set8 (g := w.heap.size) (Or.inr (Nat.le_refl _)) (.int .i64 0) (.int .i64 0) (.int .i64 0) (.int .i64 0) (.int .i64 0) (.slice none 0 0) (.int .i64 0) (.int .i64 0)))
    go_wp2_with fail
    (try simp only [Exit.inBlock, Exit.then])
    refine bodyPost_ret (v := .tuple #[zeroT.val, .int .i64 1]) ?_ rfl HE8.out
    rw [results_cell_tmp rfl]
    unfold zeroT TaskD.val
    go_simp
  · have hr := (HR.out.fr0 HF0.out).fr0 hf
    obtain ⟨g, cap, rfl, hc⟩ := task_cell hr.row hi
    have hb1 := HB.out.fr hf (fun h => h)
    have hcor := hr.cor _ (List.getElem_mem hi)
    have hnl := hr.nl _ (List.getElem_mem hi)
    have hmemx := List.getElem_mem hi
    have HTX := Lib.hid hmemx
    generalize (T[i]'hi) = x at *
    obtain ⟨pid1, job, epoch, step, rank, cv, ns, state, code⟩ := x
    have hcor : w1.ownsRow 0 3 1 cv ns.length (rowI ns) := hcor
    have hnl : ns.length ≤ 100000 := hnl
    obtain ⟨A9, cap9, rfl⟩ := row_shape hcor
    have z0 := hc 0 _ (by omega) rfl
    have z1 := hc 1 _ (by omega) rfl
    have z2 := hc 2 _ (by omega) rfl
    have z3 := hc 3 _ (by omega) rfl
    have z4 := hc 4 _ (by omega) rfl
    have z5 := hc 5 _ (by omega) rfl
    have z6 := hc 6 _ (by omega) rfl
    have z7 := hc 7 _ (by omega) rfl
    simp only [Nat.add_zero] at z0
    have c0 : w1.cell? ⟨k, 0, none⟩ = some (.slice (some ⟨g, 0, none⟩) T.length cap) := hr.blk.cell 0
    have HE := Lib.hid (HF0.out.then hf)
    have hfa : Fr (fun _ => False) w1 (w1.alloc (.cells #[.int .i64 pid1, .int .i64 job, .int .i64 epoch, .int .i64 step, .int .i64 rank, .slice A9 ns.length cap9, .int .i64 state, .int .i64 code] 61)) := (Fr.refl _ w1).alloc _
    have HFA := Lib.hid hfa
    have HR1 := Lib.hid hr
    have HBX := Lib.hid (Blk.new w1 61 #[.int .i64 pid1, .int .i64 job, .int .i64 epoch, .int .i64 step, .int .i64 rank, .slice A9 ns.length cap9, .int .i64 state, .int .i64 code])
    have HB1 := Lib.hid hb1
    have HCOR := Lib.hid hcor
    clear hc hf hfa hr hb1 hcor
    cases hs : (state != 2) with
    | true =>
      have hb2 := HB1.out.fr HFA.out (fun h => h)
      obtain ⟨y0, y1, y2, y3, y4, y5, y6, y7⟩ := tc hb2
      have fz := fun i => hb2.frozen i
      have HE8 := Lib.hid (HWE.out _ 14 ((HE.out.then HFA.out).set8 (g := w.heap.size) (Or.inr (Nat.le_refl _)) (.int .i64 0) (.int .i64 0) (.int .i64 0) (.int .i64 0) (.int .i64 0) (.slice none 0 0) (.int .i64 0) (.int .i64 0)))
      clear hb2
      go_wp2_with fail
      (try simp only [Exit.inBlock, Exit.then])
      refine bodyPost_ret (v := .tuple #[zeroT.val, .int .i64 14]) ?_ rfl HE8.out
      rw [results_cell_tmp rfl]
      unfold zeroT TaskD.val
      go_simp
    | false =>
      obtain ⟨W2, hW2⟩ : ∃ W, W = w1.alloc (.cells #[.int .i64 pid1, .int .i64 job, .int .i64 epoch, .int .i64 step, .int .i64 rank, .slice A9 ns.length cap9, .int .i64 state, .int .i64 code] 61) := ⟨_, rfl⟩
      rw [← hW2] at HFA HBX
      have HR2 := Lib.hid (HR1.out.fr0 HFA.out)
      have H0 := Lib.hid (show KeepRel W2 T (.slice none 0 0) (.slice none 0 0) (.int .i64 (0 : Nat)) W2 from ⟨0, [], [], Nat.zero_le _, rfl, rfl, Nat.le_refl _, (fun x hx => by cases hx), World.ownsRow_nil _ _ _ _, World.ownsRow_nil _ _ _ _, Fr.refl _ _⟩)
      go_wp2_with fail
      rw [← hW2]
      go_loopw [8, 9, 10] (fun lv2 sv2 i2 wr => KeepRel W2 T lv2 sv2 i2 wr) (fun _ _ i2 _ => T.length - (intOf i2).toNat)
      case atStart => exact H0.out
      case round =>
        obtain ⟨j, T2, G2, hj, rfl, hlG, hlj, hm, hrow, hsig, hf2⟩ := hrel
        have hr := HR2.out.fr0 hf2
        obtain ⟨As, caps, hsv⟩ := row_shape hr.sig
        subst hsv
        have c0 : wr.cell? ⟨k, 0, none⟩ = some (.slice (some ⟨g, 0, none⟩) T.length cap) := hr.blk.cell 0
        have c1 : wr.cell? ⟨k, 1, none⟩ = some (.slice As G.length caps) := hr.blk.cell 1
        obtain ⟨A3, cap3, rfl⟩ := row_shape hrow
        obtain ⟨A4, cap4, rfl⟩ := row_shape hsig
        have hTG := hr.len
        have hszf := hf2.size
        by_cases hlt : j < T.length
        · by_cases hji : j = i
          · subst hji
            have b1 : (((j : Nat) : Int) != ((j : Nat) : Int)) = false := by simp
            have HK := Lib.hid (show KeepRel W2 T (.slice A3 T2.length cap3) (.slice A4 G2.length cap4) (.int .i64 (j + 1 : Nat)) wr from ⟨j + 1, T2, G2, hlt, rfl, hlG, by omega, hm, hrow, hsig, hf2⟩)
            clear hr hrow hsig
            go_wp2
            go_roundw
            case rel =>
              have := HK.out
              simpa using this
            case measure => simp [intOf]; omega
          · have b1 : (((j : Nat) : Int) != ((i : Nat) : Int)) = true := by simp; omega
            have hjG : j < G.length := by omega
            obtain ⟨g', cap', hv, hc⟩ := task_cell hr.row hlt
            cases hv
            obtain ⟨gs, caps', hvs, cs⟩ := row_elem1 (fun x : Int => Value.int .i64 x) hr.sig hjG
            cases hvs
            have hcor2 := hr.cor _ (List.getElem_mem hlt)
            have hmem2 := List.getElem_mem hlt
            have HSG := Lib.hid (fun W (hW : Fr (fun _ => False) W2 W) => (⟨(HR2.out.fr0 hW).blk.cell 1, (row_elem1 (fun x : Int => Value.int .i64 x) (HR2.out.fr0 hW).sig hjG)⟩ : W.cell? ⟨k, 1, none⟩ = some (.slice (some ⟨gs, 0, none⟩) G.length caps) ∧ ∃ g cap, Value.slice (some ⟨gs, 0, none⟩) G.length caps = .slice (some ⟨g, 0, none⟩) G.length cap ∧ W.cell? ⟨g, j, none⟩ = some (.int .i64 (G[j]'hjG))))
            generalize (T[j]'hlt) = x2 at *
            generalize (G[j]'hjG) = sg at *
            obtain ⟨qpid, qjob, qepoch, qstep, qrank, qcv, qns, qstate, qcode⟩ := x2
            have hcor2 : wr.ownsRow 0 3 1 qcv qns.length (rowI qns) := hcor2
            obtain ⟨A7, cap7, rfl⟩ := row_shape hcor2
            have q0 := hc 0 _ (by omega) rfl
            have q1 := hc 1 _ (by omega) rfl
            have q2 := hc 2 _ (by omega) rfl
            have q3 := hc 3 _ (by omega) rfl
            have q4 := hc 4 _ (by omega) rfl
            have q5 := hc 5 _ (by omega) rfl
            have q6 := hc 6 _ (by omega) rfl
            have q7 := hc 7 _ (by omega) rfl
            simp only [Nat.add_zero] at q0
            have HP := Lib.hid (fun wa wb wc wd lv' sv' h1 hown1 hg1 h2 hown2 hg2 => KeepRel.push (x := ⟨qpid, qjob, qepoch, qstep, qrank, .slice A7 qns.length cap7, qns, qstate, qcode⟩) (s := sg) (wa := wa) (wb := wb) (wc := wc) (wd := wd) (lv' := lv') (sv' := sv') hlt hlG hlj hm hmem2 hrow hsig hf2 h1 hown1 hg1 h2 hown2 hg2)
            have hnw1 := news_one wr 61 [.int .i64 qpid, .int .i64 qjob, .int .i64 qepoch, .int .i64 qstep, .int .i64 qrank, .slice A7 qns.length cap7, .int .i64 qstate, .int .i64 qcode]
            have hsz2 : W2.heap.size ≤ wr.heap.size := hszf
            have hsg0 := hsig
            have HLT := Lib.hid (fun b (hb : (Value.slice A3 T2.length cap3).ownBlock = some b) => (hrow.lt b hb).1)
            have HSIG := Lib.hid (fun w7 (hg : (wr.alloc (.cells [.int .i64 qpid, .int .i64 qjob, .int .i64 qepoch, .int .i64 qstep, .int .i64 qrank, .slice A7 qns.length cap7, .int .i64 qstate, .int .i64 qcode].toArray 61)).grownBy w7 (Value.slice A3 T2.length cap3).ownBlock) => show w7.ownsRow W2.heap.size 3 1 (.slice A4 G2.length cap4) G2.length (rowI G2) from
              ownsRow_fr (ownsRow_fr hsig ((Fr.refl (fun _ => False) wr).alloc _) (fun _ _ h => h)) (Fr.of_grown (S := fun b => (Value.slice A3 T2.length cap3).ownBlock = some b) hg (fun b hb => hb)) (fun b hb e => row_apart hrow hsig (by decide) e hb))
            clear hc hr hcor2
            go_wp2_with (at_builtin; first | (refine wpList_append_own_at _ rfl _ _ 56 rfl W2.heap.size 61 i0 (.agg #[.int .i64 0, .int .i64 0, .int .i64 0, .int .i64 0, .int .i64 0, .slice none 0 0, .int .i64 0, .int .i64 0]) 8 80 Try.underlying56 gi gz0 gz1 gz2 rfl (by decide) _ _ _ rfl (hrow.alloc _) ⟨wr.heap.size, 0, none⟩ 1 1 [.int .i64 qpid, .int .i64 qjob, .int .i64 qepoch, .int .i64 qstep, .int .i64 qrank, .slice A7 qns.length cap7, .int .i64 qstate, .int .i64 qcode] rfl rfl hnw1 (by simp [Value.oneCell']) (by unfold maxLen; omega) (by omega) (by simp only [World.size_alloc]; omega) ?_; intro v7 w7 hown7 hgrow7 hne7 hat7; obtain ⟨g7, cap8, rfl⟩ := row_succ hown7; have hf7 := (hf2.alloc _).grown hgrow7 (fun b hb => Or.inr (HLT.out b hb)); obtain ⟨d1, gq, cq, hq, ds⟩ := HSG.out _ hf7; cases hq; have hsig7 := HSIG.out _ hgrow7; have hsz7 := hf7.size; have hnw2 := news_one w7 3 [.int .i64 sg]) | (refine wpList_append_own_at _ rfl _ _ 45 rfl W2.heap.size 3 j0 (.int .i64 0) 1 8 Try.underlying45 ji jz0 jz1 jz2 rfl (by decide) _ _ _ rfl (hsig7.alloc _) ⟨w7.heap.size, 0, none⟩ 1 1 [.int .i64 sg] rfl rfl hnw2 (by simp [Value.oneCell']) (by unfold maxLen; omega) (by omega) (by simp only [World.size_alloc]; omega) ?_; intro v9 w9 hown9 hgrow9 hne9 hat9; obtain ⟨g9, cap10, rfl⟩ := row_succ hown9))
            go_roundw
            case rel =>
              have := HP.out _ _ _ _ _ _ ((Fr.refl _ wr).alloc _) hown7 hgrow7 ((Fr.refl _ w7).alloc _) hown9 hgrow9
              simpa [hlG] using this
            case measure => simp [intOf]; omega
        · obtain rfl : j = T.length := by omega
          have hkt := RTab.kept HR2.out hr hm hlG hrow hsig
          have hk2 := HR2.out.blk.lt
          have hbl0 := HB.out.lt
          have hkB : k ≠ w.heap.size := by have := HR.out.blk.lt; omega
          have hw1B : w1.heap.size ≠ k := by have := (HR1.out.blk).lt; omega
          have hBw1 : w.heap.size < w1.heap.size := HB1.out.lt
          have hW1 : w1.heap.size < W2.heap.size := HBX.out.lt
          have hF2 : Fr (fun b => b = k) W2 ((wr.setCell ⟨k, 0, none⟩ (.slice A3 T2.length cap3)).setCell ⟨k, 1, none⟩ (.slice A4 G2.length cap4)) := ((hf2.mono (S' := fun b => b = k) (fun _ _ h => h.elim)).setCell (p := ⟨k, 0, none⟩) (Or.inl rfl) _).setCell (p := ⟨k, 1, none⟩) (Or.inl rfl) _
          have hbx9 := HBX.out.fr hF2 hw1B
          have hb9 := (HB1.out.fr HFA.out (fun h => h)).fr hF2 (fun e => hkB e.symm)
          obtain ⟨q0, q1, q2, q3, q4, q5, q6, q7⟩ := tc hbx9
          obtain ⟨r0, r1, r2, r3, r4, r5, r6, r7⟩ := tc hb9
          have fz := fun i => hb9.frozen i
          have fk0 := hr.blk.frozen 0
          have fk1 := hr.blk.frozen 1
          have HKT := Lib.hid hkt
          have HF2 := Lib.hid hF2
          have HR9 := Lib.hid hrow
          have HS9 := Lib.hid hsig
          have HLG := Lib.hid hlG
          have hF8 := (Fr.refl (fun b => b = w.heap.size) ((wr.setCell ⟨k, 0, none⟩ (.slice A3 T2.length cap3)).setCell ⟨k, 1, none⟩ (.slice A4 G2.length cap4))).set8 (g := w.heap.size) (Or.inl rfl) (.int .i64 pid1) (.int .i64 job) (.int .i64 epoch) (.int .i64 step) (.int .i64 rank) (.slice A9 ns.length cap9) (.int .i64 state) (.int .i64 code)
          have hwl := HE.out.size
          have hcw : ∀ x ∈ T, ∀ b, x.cv.ownBlock = some b → b < w.heap.size := fun x hx b hb => ((HR.out.cor x hx).lt b hb).2
          have hcvk : ∀ b, (Value.slice A9 ns.length cap9).ownBlock = some b → b ≠ k := fun b hb e => by
            obtain ⟨cur, hc⟩ := ownsRow_block (HCOR.out) hb
            have h3 := HR1.out.blk
            unfold Blk at h3
            rw [← e, hc] at h3
            cases h3
          have hT9 := hkt.fr hF8 (fun b hb => by
            rcases hb with rfl | hb | hb | ⟨x, hx, hb⟩
            · exact hkB
            · have := (hrow.lt b hb).1; omega
            · have := (hsig.lt b hb).1; omega
            · have := hcw x (hm x hx) b hb; omega)
          have HD := Lib.hid (show TaskPost w k n (ownR k (.slice (some ⟨g, 0, none⟩) T.length cap) (.slice As G.length caps) T) (.returned (.tuple #[TaskD.val ⟨pid1, job, epoch, step, rank, .slice A9 ns.length cap9, ns, state, code⟩, .int .i64 0])) _ from
            ⟨_, 0, rfl, coresOk_row (base := 0) (ownsRow_fr (ownsRow_fr (ownsRow_fr HCOR.out HFA.out (fun _ _ h => h)) hF2 (fun b hb e => hcvk b hb e)) hF8 (fun b hb e => by have := hcw _ HTX.out b hb; omega)) hnl,
              _, ⟨_, _, N, T2, G2, hT9, by omega, h3, h4, rfl⟩,
              ((((HE.out.then HFA.out).mono (S' := ownR k (.slice (some ⟨g, 0, none⟩) T.length cap) (.slice As G.length caps) T) (fun _ _ h => h.elim)).trans hF2 (fun b _ hb => Or.inl hb)).trans hF8 (fun b hb e => by omega)),
              fun b hb => by
                rcases hb with rfl | hb | hb | ⟨x, hx, hb⟩
                · exact Or.inl (Or.inl rfl)
                · have := (hrow.lt b hb).1; exact Or.inr (by omega)
                · have := (hsig.lt b hb).1; exact Or.inr (by omega)
                · exact Or.inl (Or.inr (Or.inr (Or.inr ⟨x, hm x hx, hb⟩)))⟩)
          clear hkt hF2 hbx9 hb9 hr hrow hsig hlG hTG hF8 hT9 hcw hcvk
          go_wp2_with fail
          (try simp only [Exit.inBlock, Exit.then])
          refine bodyPost_ret (v := .tuple #[.agg #[.int .i64 pid1, .int .i64 job, .int .i64 epoch, .int .i64 step, .int .i64 rank, .slice A9 ns.length cap9, .int .i64 state, .int .i64 code], .int .i64 0]) ?_ rfl HD.out
          rw [results_cell_tmp rfl]
          go_simp

end Go.Proofs.Ytomoomopodihhaa
