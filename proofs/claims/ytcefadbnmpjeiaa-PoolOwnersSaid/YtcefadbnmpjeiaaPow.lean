/-
  PoolOwners, walked.
-/
import Derived.Test.YtcefadbnmpjeiaaPlC
namespace Go.Proofs.Ytcefadbnmpjeiaa
open Go.RowKit Go.Maps

section
variable {l : LayD} {H : List (Int × HoldD)} {own D : List Int}
theorem SimP.own_not (h : SimP l H own D) {n : Int} (hn : n ∉ ownersS H) : (ofP H n).1 = 0 := by
  unfold ofP
  cases hf : findH H n with
  | none => rfl
  | some u => exact absurd ((ownersS_mem H n).2 ⟨_, findH_some hf, rfl⟩) hn
theorem SimP.of_lt (h : SimP l H own D) (n : Int) : (ofP H n).1 < 2 ^ 256 := by rw [← h.of]; exact ofR_lt _ _ _
theorem SimP.found (h : SimP l H own D) (n : Int) : (ownersS H).any (fun x => x == n) = decide ((ofP H n).1 ≠ 0) := by
  by_cases hn : n ∈ ownersS H
  · obtain ⟨_, h2, h3⟩ := h.own_mem hn
    rw [decide_eq_true (by rw [h2]; exact h3), List.any_eq_true]
    exact ⟨n, hn, by simp⟩
  · rw [decide_eq_false (by rw [h.own_not hn]; simp), List.any_eq_false]
    intro x hx e
    simp only [beq_iff_eq] at e
    exact hn (e ▸ hx)
end

theorem ofP_put (H : List (Int × HoldD)) (n : Int) (e : HoldD) : ofP (putH H n e) n = e := by unfold ofP; rw [findH_put_same]; rfl

/-- The answer of a reservation that is fine is what the owner has. -/
theorem reserve_of {l : LayD} {H : List (Int × HoldD)} {n : Int} {x : WishD} (h : (reserveP l H n x).1.2 = 0) : ofP (reserveP l H n x).2 n = (orAll (reserveP l H n x).1.1, false) := by
  unfold reserveP at *
  by_cases hf : freshE H n = 0
  · rw [if_pos hf] at h ⊢
    by_cases ha : (assignP l (wishP x (freeP l H))).2 = 0
    · rw [if_pos ha]
      exact ofP_put _ _ _
    · rw [if_neg ha] at h; exact absurd h ha
  · rw [if_neg hf] at h; exact absurd h hf

theorem wish_zero (r q d : Int) : (⟨0, r, q, d⟩ : WishD).val = .agg #[.int .u64 0, .int .u64 0, .int .u64 0, .int .u64 0, .int .i64 r, .int .i64 q, .int .i64 d] := by simp [WishD.val, WishD.cells, wordM]

theorem ElP.all {W : World} {g o : Nat} {do_ n r q d : Int} {F M : Nat} (h : ElP W g o ⟨do_, n, ⟨F, r, q, d⟩, M⟩) :
    W.cell? ⟨g, o, none⟩ = some (.int .i64 do_) ∧ W.cell? ⟨g, o + 1, none⟩ = some (.int .i64 n) ∧ W.cell? ⟨g, o + 2, none⟩ = some (.int .u64 (wordM F 0 : Nat)) ∧ W.cell? ⟨g, o + 3, none⟩ = some (.int .u64 (wordM F 1 : Nat)) ∧
    W.cell? ⟨g, o + 4, none⟩ = some (.int .u64 (wordM F 2 : Nat)) ∧ W.cell? ⟨g, o + 5, none⟩ = some (.int .u64 (wordM F 3 : Nat)) ∧ W.cell? ⟨g, o + 6, none⟩ = some (.int .i64 r) ∧ W.cell? ⟨g, o + 7, none⟩ = some (.int .i64 q) ∧
    W.cell? ⟨g, o + 8, none⟩ = some (.int .i64 d) ∧ W.cell? ⟨g, o + 9, none⟩ = some (.int .u64 (wordM M 0 : Nat)) ∧ W.cell? ⟨g, o + 10, none⟩ = some (.int .u64 (wordM M 1 : Nat)) ∧ W.cell? ⟨g, o + 11, none⟩ = some (.int .u64 (wordM M 2 : Nat)) ∧ W.cell? ⟨g, o + 12, none⟩ = some (.int .u64 (wordM M 3 : Nat)) :=
  ⟨h 0 _ rfl, h 1 _ rfl, h 2 _ rfl, h 3 _ rfl, h 4 _ rfl, h 5 _ rfl, h 6 _ rfl, h 7 _ rfl, h 8 _ rfl, h 9 _ rfl, h 10 _ rfl, h 11 _ rfl, h 12 _ rfl⟩

theorem any_take {L : List Int} {k : Nat} (hk : k < L.length) (n : Int) : (L.take (k + 1)).any (fun x => x == n) = ((L.take k).any (fun x => x == n) || (L[k]'hk) == n) := by
  rw [List.take_succ_eq_append_getElem hk, List.any_append]
  simp only [List.any_cons, List.any_nil, Bool.or_false]

set_option maxRecDepth 40000 in
set_option maxHeartbeats 8000000 in
theorem owners11_any (w : World) (l : LayD) (A : Option Addr) (cap : Nat) (L : List OpP) (h : OpsP w w.heap.size A L) (hl : L.length ≤ maxLen) :
    Calls Try.prog 11 #[l.val, .slice A L.length cap] w fun e w' => e = .returned (.bool true) ∧ Below w.heap.size w w' := by
  have HO := Lib.hid h
  have HF := Lib.hid ((Fr.refl (fun _ => False) w).alloc (.cells #[.int .i64 l.s, .int .i64 l.p] 23))
  have HX := Lib.hid (Blk.new w 23 #[.int .i64 l.s, .int .i64 l.p])
  unfold maxLen at hl
  clear h
  by_cases h60 : 40 < L.length
  · have b1 : decide ((40 : Int) < (L.length : Int)) = true := decide_eq_true (by omega)
    obtain ⟨s, p⟩ := l
    simp only [LayD.val] at *
    go_enter Try.func11, Try.ntmps11
    go_wp2_with fail
    refine (live34_any _).mono ?_
    rintro e w2 ⟨rfl, hf2⟩
    go_wp2_with fail
    go_ret
    exact ⟨rfl, (HF.out.then hf2).below0⟩
  · have b1 : decide ((40 : Int) < (L.length : Int)) = false := decide_eq_false (by omega)
    have h19 := fun W => check19_any l W
    by_cases hc : l.check = 0
    · have h36 := fun W => own36_any l W
      have h35 := fun W => new35_any l hc W
      have HSN := Lib.hid (SimP.new (may_of_check hc))
      rw [hc] at h19
      clear hc
      obtain ⟨s, p⟩ := l
      simp only [LayD.val] at *
      have H19 := Lib.hid h19
      have H36 := Lib.hid h36
      have H35 := Lib.hid h35
      clear h19 h36 h35
      have y := fun i => HX.out.cell i
      go_enter Try.func11, Try.ntmps11
      go_wp2_with fail
      refine (H19.out _).mono ?_
      rintro e w0 ⟨rfl, hf0⟩
      clear y
      have HF0 := Lib.hid (HF.out.then hf0)
      have hx0 := HX.out.fr hf0 (fun h => h)
      have y := fun i => hx0.cell i
      clear hx0 hf0
      go_wp2_with fail
      refine (H36.out _).mono ?_
      rintro e w1 ⟨rfl, hf1⟩
      clear y
      go_wp2_with fail
      refine (H35.out _).mono ?_
      rintro e w2 ⟨b, m, rfl, hb, hm, hP2, hf2⟩
      have HF2 := Lib.hid ((HF0.out.then hf1).then hf2)
      have HP2 := Lib.hid hP2
      have hz1 := (HF0.out.then hf1).size
      have hmw : w.heap.size ≤ m := Nat.le_trans hz1 hm
      clear hf1 hf2 hP2
      go_wp2_with fail
      go_loopw [6] (fun i wr => ∃ (k : Nat) (H : List (Int × HoldD)) (own D : List Int), k ≤ L.length ∧ i = .int .i64 k ∧ PoolAt wr b m ⟨s, p⟩ H ∧ SimP ⟨s, p⟩ H own D ∧ H.length ≤ k ∧ Below w.heap.size w wr) (fun i _ => L.length - (intOf i).toNat)
      case atStart => exact ⟨0, [], _, _, Nat.zero_le _, rfl, HP2.out, HSN.out, Nat.le_refl _, HF2.out.below0⟩
      case round =>
        obtain ⟨k, H, own, D, hk, rfl, hP, hsim, hHl, hB⟩ := hrel
        by_cases hlt : k < L.length
        · obtain ⟨g, off, rfl, hg, hel⟩ := (HO.out.below hB).el hlt
          have how := HO.out.wf _ (List.getElem_mem hlt)
          generalize L[k] = o at *
          have hrp := hsim.reserve o.own ⟨0, o.x.ranks, o.x.per, o.x.dist⟩
          have hrl := reserveP_len ⟨s, p⟩ H o.own ⟨0, o.x.ranks, o.x.per, o.x.dist⟩
          have hel' := hsim.releases o.own
          have hell := releaseP_len H o.own
          have hPa := hP.fr0 ((Fr.refl (fun _ => False) wr).alloc (.cells o.cells 71))
          have h46 := fun res hr => reserve46_any _ b m ⟨s, p⟩ H hPa o.own how.own ⟨0, o.x.ranks, o.x.per, o.x.dist⟩ (by omega) res hr
          have h45 := release45_any _ b m ⟨s, p⟩ H hPa o.own how.own
          have hro := reserve_of (l := ⟨s, p⟩) (H := H) (n := o.own) (x := ⟨0, o.x.ranks, o.x.per, o.x.dist⟩)
          have HMF := Lib.hid (fun (hh : (reserveP ⟨s, p⟩ H o.own ⟨0, o.x.ranks, o.x.per, o.x.dist⟩).1.1.length ≤ 32) => hh)
          have hle : (reserveP ⟨s, p⟩ H o.own ⟨0, o.x.ranks, o.x.per, o.x.dist⟩).1.1.length ≤ 32 := by
            unfold reserveP
            split
            · split
              · rw [assign_ref]; exact refP_len _ _
              · simp
            · simp
          have HBX := Lib.hid (Blk.new wr 71 o.cells)
          have HBa := Lib.hid (hB.trans (((Fr.refl (fun _ => False) wr).alloc (.cells o.cells 71)).below hB.size (fun _ h => h.elim)))
          have HPa := Lib.hid hPa
          obtain ⟨do_, n, ⟨F, r', q, d⟩, M⟩ := o
          have hn := how.own
          simp only [OpP.val, OpP.cells, wish_zero] at *
          obtain ⟨c0, c1, c2, c3, c4, c5, c6, c7, c8, c9, c10, c11, c12⟩ := hel.all
          clear hel hP hB how hPa HMF
          by_cases hd0 : do_ = 0
          · subst hd0
            generalize hRV : reserveP ⟨s, p⟩ H n ⟨0, r', q, d⟩ = RV at *
            obtain ⟨⟨Ms, ec⟩, H'⟩ := RV
            obtain ⟨_, hsim'⟩ := hrp
            have h46 := h46 _ rfl
            generalize (reserveR ⟨s, p⟩ own n ⟨0, r', q, d⟩).2 = own' at *
            obtain ⟨D', rfl⟩ : ∃ D', D' = D := ⟨_, rfl⟩
            simp only at hsim' h46 hle hrl hro
            have H46 := Lib.hid h46
            have HRO := Lib.hid hro
            have HSM := Lib.hid hsim'
            clear h46 h45 hro hel' hell hsim hsim' hRV
            go_wp2_with fail
            refine H46.out.mono ?_
            rintro e w3 ⟨v3, rfl, hrow3, hP3, hf3⟩
            have HP3 := Lib.hid hP3
            have HBX3 := Lib.hid (blk_m HPa.out.map HBX.out hf3)
            have HB3 := Lib.hid (HBa.out.trans (hf3.below HBa.out.size (fun i h => h ▸ hmw)))
            have HM3 := Lib.hid (MsV.of_row hrow3)
            obtain ⟨A3, cap3, rfl⟩ := row_shape hrow3
            clear hrow3 hP3 hf3 c0 c1 c2 c3 c4 c5 c6 c7 c8 c9 c10 c11 c12
            go_wp2_with fail
            have HZ := Lib.hid (Blk.new w3 33 #[.int .u64 0, .int .u64 0, .int .u64 0, .int .u64 0])
            obtain ⟨wS, rfl⟩ : ∃ wS : World, wS = w3 := ⟨_, rfl⟩
            go_loopw [11] (fun i wq => ∃ j : Nat, j ≤ Ms.length ∧ i = .int .i64 j ∧ Blk wq wS.heap.size 33 #[.int .u64 (wordM (orAll (Ms.take j)) 0 : Nat), .int .u64 (wordM (orAll (Ms.take j)) 1 : Nat), .int .u64 (wordM (orAll (Ms.take j)) 2 : Nat), .int .u64 (wordM (orAll (Ms.take j)) 3 : Nat)] ∧ Fr (fun _ => False) wS wq) (fun i _ => Ms.length - (intOf i).toNat)
            case atStart => exact ⟨0, Nat.zero_le _, rfl, by simpa [orAll, wordM] using HZ.out, (Fr.refl _ _).alloc _⟩
            case round =>
              obtain ⟨j, hj, rfl, hbq, hfq⟩ := hrel
              by_cases hjt : j < Ms.length
              · obtain ⟨B, cp, hv, hcj⟩ := HM3.out.fr0 hfq
                cases hv
                obtain ⟨g2, off2, rfl, c⟩ := hcj j hjt
                obtain ⟨d0, d1, d2, d3⟩ := MsV.at4 c
                have hst := orAll_take hjt
                have h30 := fun W => or_any (orAll (Ms.take j)) Ms[j] W
                generalize Ms[j] = Mj at *
                generalize orAll (Ms.take j) = O at *
                rw [← hst] at h30
                obtain ⟨O', hO⟩ : ∃ O', orAll (Ms.take (j + 1)) = O' := ⟨_, rfl⟩
                rw [hO] at h30
                have HO' := Lib.hid hO
                simp only [valM, Ytcefadbnmpjeiaa.cellsM] at h30
                have H30 := Lib.hid h30
                have k0 := Later.cell (hbq.cell 0)
                have k1 := Later.cell (hbq.cell 1)
                have k2 := Later.cell (hbq.cell 2)
                have k3 := Later.cell (hbq.cell 3)
                have m0 := Later.cell d0
                have m1 := Later.cell d1
                have m2 := Later.cell d2
                have m3 := Later.cell d3
                have HBQ := Lib.hid hbq
                have HFQ := Lib.hid hfq
                clear hO h30 hst c hcj hbq hfq d0 d1 d2 d3
                go_wp2_with fail
                refine wp_region_later_tail wr 6 (by kernel_rfl) (by kernel_rfl) (Fr.refl _ _) ?_
                simp only [List.take_succ_cons, List.take_zero, List.drop_succ_cons, List.drop_zero]
                repeat (go_big_quiet_step (first | (go_at_call 30; exact later_call (H30.out _))))
                refine wpQuiet_nil ?_
                rintro _ ⟨dd, rfl⟩
                clear k0 k1 k2 k3 m0 m1 m2 m3
                have hbd := HBQ.out.fr dd.fr (fun h => h)
                obtain ⟨f0, f1, f2, f3⟩ := hbd.frozenM
                have yy := fun i => hbd.cell i
                have HBD := Lib.hid hbd
                have HFD := Lib.hid (HFQ.out.then dd.fr)
                clear hbd
                go_wp2_with fail
                go_roundw
                case rel => exact ⟨j + 1, by omega, by go_num, by rw [HO'.out]; exact Blk.setM rfl HBD.out O', HFD.out.setM (Or.inr (Nat.le_refl _)) _ _ _ _⟩
                case measure => simp [intOf]; omega
              · obtain rfl : j = Ms.length := by omega
                rw [List.take_length] at hbq
                have hpq := HP3.out.fr0 hfq
                have h43 := of43_any _ b m ⟨s, p⟩ H' hpq n hn
                have hlo := HSM.out.of_lt n
                have HBQ := Lib.hid hbq
                have HPQ := Lib.hid hpq
                have hxq := HBX3.out.fr hfq (fun h => h)
                have y := fun i => hxq.cell i
                have HXQ := Lib.hid hxq
                have HBB := Lib.hid (HB3.out.trans (hfq.below HB3.out.size (fun _ h => h.elim)))
                generalize hOO : ofP H' n = OO at *
                obtain ⟨QM, qd⟩ := OO
                simp only [valM, Ytcefadbnmpjeiaa.cellsM] at h43 hlo
                have H43 := Lib.hid h43
                have HOO := Lib.hid hOO
                clear hbq hpq h43 hxq hfq hOO
                go_wp2_with fail
                refine H43.out.mono ?_
                rintro e w4 ⟨rfl, hf4⟩
                clear y
                generalize orAll Ms = OA at *
                by_cases he : ec = 0
                · have hOA := HRO.out he
                  simp only [Prod.mk.injEq] at hOA
                  obtain ⟨rfl, rfl⟩ := hOA
                  subst he
                  have hqq := fun W => eq_masks hlo hlo 33 Try.underlying33 W
                  rw [decide_eq_true rfl] at hqq
                  simp only [valM, Ytcefadbnmpjeiaa.cellsM] at hqq
                  have hb4 := (HBQ.out.fr hf4 (fun h => h)).alloc (.cells #[.int .u64 (wordM QM 0 : Nat), .int .u64 (wordM QM 1 : Nat), .int .u64 (wordM QM 2 : Nat), .int .u64 (wordM QM 3 : Nat)] 33)
                  have yb := fun i => hb4.cell i
                  have hb4l := (HBQ.out.fr hf4 (fun h => h)).lt
                  have HBX4 := Lib.hid ((HXQ.out.fr hf4 (fun h => h)).alloc (.cells #[.int .u64 (wordM QM 0 : Nat), .int .u64 (wordM QM 1 : Nat), .int .u64 (wordM QM 2 : Nat), .int .u64 (wordM QM 3 : Nat)] 33))
                  have hP4 := (HPQ.out.fr0 hf4).fr0 ((Fr.refl _ w4).alloc (.cells #[.int .u64 (wordM QM 0 : Nat), .int .u64 (wordM QM 1 : Nat), .int .u64 (wordM QM 2 : Nat), .int .u64 (wordM QM 3 : Nat)] 33))
                  have HB4 := Lib.hid (HBB.out.trans ((hf4.alloc (.cells #[.int .u64 (wordM QM 0 : Nat), .int .u64 (wordM QM 1 : Nat), .int .u64 (wordM QM 2 : Nat), .int .u64 (wordM QM 3 : Nat)] 33)).below HBB.out.size (fun _ h => h.elim)))
                  have HP4' := Lib.hid hP4
                  clear hb4 hf4 hP4
                  go_wp2_with fail
                  clear hqq yb hb4l
                  have hP4 := HP4'.out
                  have hsim' := HSM.out
                  clear HP4' HBQ HPQ HXQ HBB HM3 HP3 HBX3 HB3 HRO HSM HZ
                  generalize hw4 : (w4.alloc (.cells #[.int .u64 (wordM QM 0 : Nat), .int .u64 (wordM QM 1 : Nat), .int .u64 (wordM QM 2 : Nat), .int .u64 (wordM QM 3 : Nat)] 33)) = wT at *
                  clear hw4
                  have hol : (ownersS H').length ≤ 100 := by rw [ownersS_length]; omega
                  have h41 := fun W (hf : Fr (fun _ => False) wT W) => owners41_any W b m ⟨s, p⟩ H' (hP4.fr0 hf)
                  have h43' := fun W (hf : Fr (fun _ => False) wT W) => of43_any W b m ⟨s, p⟩ H' (hP4.fr0 hf) n hn
                  have hfo := hsim'.found n
                  have hlt4 := hsim'.of_lt n
                  have HP4 := Lib.hid hP4
                  have HSIM := Lib.hid hsim'
                  generalize ownersS H' = NS at *
                  obtain ⟨OM, hOM⟩ : ∃ OM, (ofP H' n).1 = OM := ⟨_, rfl⟩
                  obtain ⟨od, hod⟩ : ∃ od, (ofP H' n).2 = od := ⟨_, rfl⟩
                  rw [hOM] at hfo hlt4
                  simp only [hOM, hod] at h43'
                  have hq4 := fun W => eq_masks hlt4 (show (0 : Nat) < 2 ^ 256 by decide) 33 Try.underlying33 W
                  simp only [valM, zero_cells] at hq4
                  simp only [valM, Ytcefadbnmpjeiaa.cellsM] at hq4 h43'
                  have HQ4 := Lib.hid hq4
                  have H43' := Lib.hid h43'
                  have H41 := Lib.hid h41
                  have HFO := Lib.hid hfo
                  clear h41 h43' hq4 hP4 hsim' hOM hod hfo hlt4
                  go_wp2_with fail
                  refine (H41.out _ (Fr.refl _ _)).mono ?_
                  rintro e w6 ⟨v6, rfl, hr6, hf6⟩
                  have HF6 := Lib.hid hf6
                  have hb6 := HBX4.out.fr hf6 (fun h => h)
                  have HBX6 := Lib.hid hb6
                  have hi6 := IntsV.of_row hr6
                  obtain ⟨A6, cap6, rfl⟩ := row_shape hr6
                  have HI6 := Lib.hid hi6
                  clear hr6 hf6 hi6 hb6
                  go_wp2_with fail
                  obtain ⟨wA, rfl⟩ : ∃ wA : World, wA = w6 := ⟨_, rfl⟩
                  go_loopw [14, 16] (fun fv i wq => ∃ (j : Nat) (fb : Bool), j ≤ NS.length ∧ i = .int .i64 j ∧ fv = .bool fb ∧ Hid (fb = (NS.take j).any fun x => x == n) ∧ Fr (fun _ => False) wA wq) (fun _ i _ => NS.length - (intOf i).toNat)
                  case atStart => exact ⟨0, false, Nat.zero_le _, rfl, rfl, rfl, Fr.refl _ _⟩
                  case round =>
                    obtain ⟨j, fb, hj, rfl, rfl, hfb, hfq⟩ := hrel
                    by_cases hjt : j < NS.length
                    · obtain ⟨B, cp, hv, hcj⟩ := HI6.out.fr0 hfq
                      cases hv
                      obtain ⟨g2, off2, rfl, d1⟩ := hcj j hjt
                      have hst := any_take hjt n
                      rw [← hfb.out] at hst
                      have hbq := HBX6.out.fr hfq (fun h => h)
                      generalize NS[j] = nj at *
                      have l0 := Later.cell d1
                      have l1 := Later.cell (hbq.cell 1)
                      have HST := Lib.hid hst
                      have HFQ := Lib.hid hfq
                      clear hst hcj d1 hbq hfq hfb
                      go_wp2_with fail
                      cases fb with
                      | true =>
                        refine wp_region_later wr (by kernel_rfl) (by kernel_rfl) (Fr.refl _ _) ?_
                        repeat (go_big_quiet_step (fail))
                        refine wpQuiet_nil ?_
                        rintro _ ⟨dd, rfl⟩
                        clear l0 l1
                        go_wp2_with fail
                        go_roundw
                        case rel => exact ⟨j + 1, true, by omega, by go_num, rfl, Lib.hid (by rw [HST.out]; rfl), HFQ.out.then dd.fr⟩
                        case measure => simp [intOf]; omega
                      | false =>
                        refine wp_region_later wr (by kernel_rfl) (by kernel_rfl) (Fr.refl _ _) ?_
                        repeat (go_big_quiet_step (fail))
                        refine wpQuiet_nil ?_
                        rintro _ ⟨dd, rfl⟩
                        clear l0 l1
                        go_wp2_with fail
                        go_roundw
                        case rel => exact ⟨j + 1, (nj == n), by omega, by go_num, rfl, Lib.hid (by rw [HST.out]; rfl), HFQ.out.then dd.fr⟩
                        case measure => simp [intOf]; omega
                    · obtain rfl : j = NS.length := by omega
                      have hfb' := hfb.out
                      rw [List.take_length, HFO.out] at hfb'
                      have hbq := HBX6.out.fr hfq (fun h => h)
                      have y := fun i => hbq.cell i
                      have Gq := Lib.hid (HF6.out.then hfq)
                      clear hbq hfq hfb
                      go_wp2_with fail
                      refine (H43'.out _ Gq.out).mono ?_
                      rintro e w7 ⟨rfl, hf7⟩
                      clear y
                      have G7 := Lib.hid ((Gq.out.then hf7).alloc (.cells #[.int .u64 (wordM OM 0 : Nat), .int .u64 (wordM OM 1 : Nat), .int .u64 (wordM OM 2 : Nat), .int .u64 (wordM OM 3 : Nat)] 33))
                      have HB7 := Lib.hid (HB4.out.trans (G7.out.below HB4.out.size (fun _ h => h.elim)))
                      clear hf7
                      by_cases h0 : OM = 0
                      · rw [decide_eq_false (by simpa using h0)] at hfb'
                        subst hfb'
                        have hq := HQ4.out
                        rw [decide_eq_true h0] at hq
                        clear h0
                        go_wp2_with fail
                        go_roundw
                        case rel => exact ⟨k + 1, H', own', D', by omega, by go_num, HP4.out.fr0 G7.out, HSIM.out, by omega, HB7.out⟩
                        case measure => simp [intOf]; omega
                      · rw [decide_eq_true (by simpa using h0)] at hfb'
                        subst hfb'
                        have hq := HQ4.out
                        rw [decide_eq_false h0] at hq
                        clear h0
                        go_wp2_with fail
                        go_roundw
                        case rel => exact ⟨k + 1, H', own', D', by omega, by go_num, HP4.out.fr0 G7.out, HSIM.out, by omega, HB7.out⟩
                        case measure => simp [intOf]; omega
                · have be : (ec == 0) = false := by simpa using he
                  have HBX4 := Lib.hid ((HXQ.out.fr hf4 (fun h => h)).alloc (.cells #[.int .u64 (wordM QM 0 : Nat), .int .u64 (wordM QM 1 : Nat), .int .u64 (wordM QM 2 : Nat), .int .u64 (wordM QM 3 : Nat)] 33))
                  have hP4 := (HPQ.out.fr0 hf4).fr0 ((Fr.refl _ w4).alloc (.cells #[.int .u64 (wordM QM 0 : Nat), .int .u64 (wordM QM 1 : Nat), .int .u64 (wordM QM 2 : Nat), .int .u64 (wordM QM 3 : Nat)] 33))
                  have HB4 := Lib.hid (HBB.out.trans ((hf4.alloc (.cells #[.int .u64 (wordM QM 0 : Nat), .int .u64 (wordM QM 1 : Nat), .int .u64 (wordM QM 2 : Nat), .int .u64 (wordM QM 3 : Nat)] 33)).below HBB.out.size (fun _ h => h.elim)))
                  have HP4' := Lib.hid hP4
                  clear hf4 hP4
                  go_wp2_with fail
                  have hP4 := HP4'.out
                  have hsim' := HSM.out
                  clear HP4' HBQ HPQ HXQ HBB HM3 HP3 HBX3 HB3 HRO HSM HZ
                  generalize hw4 : (w4.alloc (.cells #[.int .u64 (wordM QM 0 : Nat), .int .u64 (wordM QM 1 : Nat), .int .u64 (wordM QM 2 : Nat), .int .u64 (wordM QM 3 : Nat)] 33)) = wT at *
                  clear hw4
                  have hol : (ownersS H').length ≤ 100 := by rw [ownersS_length]; omega
                  have h41 := fun W (hf : Fr (fun _ => False) wT W) => owners41_any W b m ⟨s, p⟩ H' (hP4.fr0 hf)
                  have h43' := fun W (hf : Fr (fun _ => False) wT W) => of43_any W b m ⟨s, p⟩ H' (hP4.fr0 hf) n hn
                  have hfo := hsim'.found n
                  have hlt4 := hsim'.of_lt n
                  have HP4 := Lib.hid hP4
                  have HSIM := Lib.hid hsim'
                  generalize ownersS H' = NS at *
                  obtain ⟨OM, hOM⟩ : ∃ OM, (ofP H' n).1 = OM := ⟨_, rfl⟩
                  obtain ⟨od, hod⟩ : ∃ od, (ofP H' n).2 = od := ⟨_, rfl⟩
                  rw [hOM] at hfo hlt4
                  simp only [hOM, hod] at h43'
                  have hq4 := fun W => eq_masks hlt4 (show (0 : Nat) < 2 ^ 256 by decide) 33 Try.underlying33 W
                  simp only [valM, zero_cells] at hq4
                  simp only [valM, Ytcefadbnmpjeiaa.cellsM] at hq4 h43'
                  have HQ4 := Lib.hid hq4
                  have H43' := Lib.hid h43'
                  have H41 := Lib.hid h41
                  have HFO := Lib.hid hfo
                  clear h41 h43' hq4 hP4 hsim' hOM hod hfo hlt4
                  go_wp2_with fail
                  refine (H41.out _ (Fr.refl _ _)).mono ?_
                  rintro e w6 ⟨v6, rfl, hr6, hf6⟩
                  have HF6 := Lib.hid hf6
                  have hb6 := HBX4.out.fr hf6 (fun h => h)
                  have HBX6 := Lib.hid hb6
                  have hi6 := IntsV.of_row hr6
                  obtain ⟨A6, cap6, rfl⟩ := row_shape hr6
                  have HI6 := Lib.hid hi6
                  clear hr6 hf6 hi6 hb6
                  go_wp2_with fail
                  obtain ⟨wA, rfl⟩ : ∃ wA : World, wA = w6 := ⟨_, rfl⟩
                  go_loopw [14, 16] (fun fv i wq => ∃ (j : Nat) (fb : Bool), j ≤ NS.length ∧ i = .int .i64 j ∧ fv = .bool fb ∧ Hid (fb = (NS.take j).any fun x => x == n) ∧ Fr (fun _ => False) wA wq) (fun _ i _ => NS.length - (intOf i).toNat)
                  case atStart => exact ⟨0, false, Nat.zero_le _, rfl, rfl, rfl, Fr.refl _ _⟩
                  case round =>
                    obtain ⟨j, fb, hj, rfl, rfl, hfb, hfq⟩ := hrel
                    by_cases hjt : j < NS.length
                    · obtain ⟨B, cp, hv, hcj⟩ := HI6.out.fr0 hfq
                      cases hv
                      obtain ⟨g2, off2, rfl, d1⟩ := hcj j hjt
                      have hst := any_take hjt n
                      rw [← hfb.out] at hst
                      have hbq := HBX6.out.fr hfq (fun h => h)
                      generalize NS[j] = nj at *
                      have l0 := Later.cell d1
                      have l1 := Later.cell (hbq.cell 1)
                      have HST := Lib.hid hst
                      have HFQ := Lib.hid hfq
                      clear hst hcj d1 hbq hfq hfb
                      go_wp2_with fail
                      cases fb with
                      | true =>
                        refine wp_region_later wr (by kernel_rfl) (by kernel_rfl) (Fr.refl _ _) ?_
                        repeat (go_big_quiet_step (fail))
                        refine wpQuiet_nil ?_
                        rintro _ ⟨dd, rfl⟩
                        clear l0 l1
                        go_wp2_with fail
                        go_roundw
                        case rel => exact ⟨j + 1, true, by omega, by go_num, rfl, Lib.hid (by rw [HST.out]; rfl), HFQ.out.then dd.fr⟩
                        case measure => simp [intOf]; omega
                      | false =>
                        refine wp_region_later wr (by kernel_rfl) (by kernel_rfl) (Fr.refl _ _) ?_
                        repeat (go_big_quiet_step (fail))
                        refine wpQuiet_nil ?_
                        rintro _ ⟨dd, rfl⟩
                        clear l0 l1
                        go_wp2_with fail
                        go_roundw
                        case rel => exact ⟨j + 1, (nj == n), by omega, by go_num, rfl, Lib.hid (by rw [HST.out]; rfl), HFQ.out.then dd.fr⟩
                        case measure => simp [intOf]; omega
                    · obtain rfl : j = NS.length := by omega
                      have hfb' := hfb.out
                      rw [List.take_length, HFO.out] at hfb'
                      have hbq := HBX6.out.fr hfq (fun h => h)
                      have y := fun i => hbq.cell i
                      have Gq := Lib.hid (HF6.out.then hfq)
                      clear hbq hfq hfb
                      go_wp2_with fail
                      refine (H43'.out _ Gq.out).mono ?_
                      rintro e w7 ⟨rfl, hf7⟩
                      clear y
                      have G7 := Lib.hid ((Gq.out.then hf7).alloc (.cells #[.int .u64 (wordM OM 0 : Nat), .int .u64 (wordM OM 1 : Nat), .int .u64 (wordM OM 2 : Nat), .int .u64 (wordM OM 3 : Nat)] 33))
                      have HB7 := Lib.hid (HB4.out.trans (G7.out.below HB4.out.size (fun _ h => h.elim)))
                      clear hf7
                      by_cases h0 : OM = 0
                      · rw [decide_eq_false (by simpa using h0)] at hfb'
                        subst hfb'
                        have hq := HQ4.out
                        rw [decide_eq_true h0] at hq
                        clear h0
                        go_wp2_with fail
                        go_roundw
                        case rel => exact ⟨k + 1, H', own', D', by omega, by go_num, HP4.out.fr0 G7.out, HSIM.out, by omega, HB7.out⟩
                        case measure => simp [intOf]; omega
                      · rw [decide_eq_true (by simpa using h0)] at hfb'
                        subst hfb'
                        have hq := HQ4.out
                        rw [decide_eq_false h0] at hq
                        clear h0
                        go_wp2_with fail
                        go_roundw
                        case rel => exact ⟨k + 1, H', own', D', by omega, by go_num, HP4.out.fr0 G7.out, HSIM.out, by omega, HB7.out⟩
                        case measure => simp [intOf]; omega
          · have bd : (do_ == 0) = false := by simpa using hd0
            obtain ⟨_, hsimr⟩ := hel'
            generalize (releaseP H n).1 = H' at *
            generalize (releaseP H n).2 = rc at *
            generalize (releaseR own D n).2.1 = own' at *
            generalize (releaseR own D n).2.2 = D' at *
            have H45 := Lib.hid h45
            have HSM := Lib.hid hsimr
            clear h46 h45 hro hrl hrp hsim hsimr hle hd0
            go_wp2_with fail
            refine H45.out.mono ?_
            rintro e w3 ⟨rfl, hP3, hf3⟩
            have HBX4 := Lib.hid (blk_m HPa.out.map HBX.out hf3)
            have HB4 := Lib.hid (HBa.out.trans (hf3.below HBa.out.size (fun i h => h ▸ hmw)))
            have hP4 := hP3
            have hsim' := HSM.out
            clear hP3 hf3 c0 c1 c2 c3 c4 c5 c6 c7 c8 c9 c10 c11 c12
            have hol : (ownersS H').length ≤ 100 := by rw [ownersS_length]; omega
            have h41 := fun W (hf : Fr (fun _ => False) w3 W) => owners41_any W b m ⟨s, p⟩ H' (hP4.fr0 hf)
            have h43' := fun W (hf : Fr (fun _ => False) w3 W) => of43_any W b m ⟨s, p⟩ H' (hP4.fr0 hf) n hn
            have hfo := hsim'.found n
            have hlt4 := hsim'.of_lt n
            have HP4 := Lib.hid hP4
            have HSIM := Lib.hid hsim'
            generalize ownersS H' = NS at *
            obtain ⟨OM, hOM⟩ : ∃ OM, (ofP H' n).1 = OM := ⟨_, rfl⟩
            obtain ⟨od, hod⟩ : ∃ od, (ofP H' n).2 = od := ⟨_, rfl⟩
            rw [hOM] at hfo hlt4
            simp only [hOM, hod] at h43'
            have hq4 := fun W => eq_masks hlt4 (show (0 : Nat) < 2 ^ 256 by decide) 33 Try.underlying33 W
            simp only [valM, zero_cells] at hq4
            simp only [valM, Ytcefadbnmpjeiaa.cellsM] at hq4 h43'
            have HQ4 := Lib.hid hq4
            have H43' := Lib.hid h43'
            have H41 := Lib.hid h41
            have HFO := Lib.hid hfo
            clear h41 h43' hq4 hP4 hsim' hOM hod hfo hlt4
            go_wp2_with fail
            refine (H41.out _ (Fr.refl _ _)).mono ?_
            rintro e w6 ⟨v6, rfl, hr6, hf6⟩
            have HF6 := Lib.hid hf6
            have hb6 := HBX4.out.fr hf6 (fun h => h)
            have HBX6 := Lib.hid hb6
            have hi6 := IntsV.of_row hr6
            obtain ⟨A6, cap6, rfl⟩ := row_shape hr6
            have HI6 := Lib.hid hi6
            clear hr6 hf6 hi6 hb6
            go_wp2_with fail
            obtain ⟨wA, rfl⟩ : ∃ wA : World, wA = w6 := ⟨_, rfl⟩
            go_loopw [14, 16] (fun fv i wq => ∃ (j : Nat) (fb : Bool), j ≤ NS.length ∧ i = .int .i64 j ∧ fv = .bool fb ∧ Hid (fb = (NS.take j).any fun x => x == n) ∧ Fr (fun _ => False) wA wq) (fun _ i _ => NS.length - (intOf i).toNat)
            case atStart => exact ⟨0, false, Nat.zero_le _, rfl, rfl, rfl, Fr.refl _ _⟩
            case round =>
              obtain ⟨j, fb, hj, rfl, rfl, hfb, hfq⟩ := hrel
              by_cases hjt : j < NS.length
              · obtain ⟨B, cp, hv, hcj⟩ := HI6.out.fr0 hfq
                cases hv
                obtain ⟨g2, off2, rfl, d1⟩ := hcj j hjt
                have hst := any_take hjt n
                rw [← hfb.out] at hst
                have hbq := HBX6.out.fr hfq (fun h => h)
                generalize NS[j] = nj at *
                have l0 := Later.cell d1
                have l1 := Later.cell (hbq.cell 1)
                have HST := Lib.hid hst
                have HFQ := Lib.hid hfq
                clear hst hcj d1 hbq hfq hfb
                go_wp2_with fail
                cases fb with
                | true =>
                  refine wp_region_later wr (by kernel_rfl) (by kernel_rfl) (Fr.refl _ _) ?_
                  repeat (go_big_quiet_step (fail))
                  refine wpQuiet_nil ?_
                  rintro _ ⟨dd, rfl⟩
                  clear l0 l1
                  go_wp2_with fail
                  go_roundw
                  case rel => exact ⟨j + 1, true, by omega, by go_num, rfl, Lib.hid (by rw [HST.out]; rfl), HFQ.out.then dd.fr⟩
                  case measure => simp [intOf]; omega
                | false =>
                  refine wp_region_later wr (by kernel_rfl) (by kernel_rfl) (Fr.refl _ _) ?_
                  repeat (go_big_quiet_step (fail))
                  refine wpQuiet_nil ?_
                  rintro _ ⟨dd, rfl⟩
                  clear l0 l1
                  go_wp2_with fail
                  go_roundw
                  case rel => exact ⟨j + 1, (nj == n), by omega, by go_num, rfl, Lib.hid (by rw [HST.out]; rfl), HFQ.out.then dd.fr⟩
                  case measure => simp [intOf]; omega
              · obtain rfl : j = NS.length := by omega
                have hfb' := hfb.out
                rw [List.take_length, HFO.out] at hfb'
                have hbq := HBX6.out.fr hfq (fun h => h)
                have y := fun i => hbq.cell i
                have Gq := Lib.hid (HF6.out.then hfq)
                clear hbq hfq hfb
                go_wp2_with fail
                refine (H43'.out _ Gq.out).mono ?_
                rintro e w7 ⟨rfl, hf7⟩
                clear y
                have G7 := Lib.hid ((Gq.out.then hf7).alloc (.cells #[.int .u64 (wordM OM 0 : Nat), .int .u64 (wordM OM 1 : Nat), .int .u64 (wordM OM 2 : Nat), .int .u64 (wordM OM 3 : Nat)] 33))
                have HB7 := Lib.hid (HB4.out.trans (G7.out.below HB4.out.size (fun _ h => h.elim)))
                clear hf7
                by_cases h0 : OM = 0
                · rw [decide_eq_false (by simpa using h0)] at hfb'
                  subst hfb'
                  have hq := HQ4.out
                  rw [decide_eq_true h0] at hq
                  clear h0
                  go_wp2_with fail
                  go_roundw
                  case rel => exact ⟨k + 1, H', own', D', by omega, by go_num, HP4.out.fr0 G7.out, HSIM.out, by omega, HB7.out⟩
                  case measure => simp [intOf]; omega
                · rw [decide_eq_true (by simpa using h0)] at hfb'
                  subst hfb'
                  have hq := HQ4.out
                  rw [decide_eq_false h0] at hq
                  clear h0
                  go_wp2_with fail
                  go_roundw
                  case rel => exact ⟨k + 1, H', own', D', by omega, by go_num, HP4.out.fr0 G7.out, HSIM.out, by omega, HB7.out⟩
                  case measure => simp [intOf]; omega
        · obtain rfl : k = L.length := by omega
          go_wp2_with fail
          refine (live34_any _).mono ?_
          rintro e w5 ⟨rfl, hf5⟩
          go_wp2_with fail
          go_ret
          exact ⟨rfl, hB.trans (hf5.below hB.size (fun _ h => h.elim))⟩
    · have b2 : (l.check != 0) = true := by simpa using hc
      generalize l.check = ck at *
      clear hc
      obtain ⟨s, p⟩ := l
      simp only [LayD.val] at *
      have H19 := Lib.hid h19
      clear h19
      have y := fun i => HX.out.cell i
      go_enter Try.func11, Try.ntmps11
      go_wp2_with fail
      refine (H19.out _).mono ?_
      rintro e w1 ⟨rfl, hf1⟩
      clear y
      go_wp2_with fail
      refine (live34_any _).mono ?_
      rintro e w4 ⟨rfl, hf4⟩
      go_wp2_with fail
      go_ret
      exact ⟨rfl, ((HF.out.then hf1).then hf4).below0⟩

end Go.Proofs.Ytcefadbnmpjeiaa
