/-
  PoolBack, walked.
-/
import Derived.Test.YtcefadbnmpjeiaaPow
namespace Go.Proofs.Ytcefadbnmpjeiaa
open Go.RowKit Go.Maps

theorem delH_put {H : List (Int × HoldD)} {n : Int} (hf : findH H n = none) (e : HoldD) : delH (putH H n e) n = H := by
  have h1 : H.filter (fun p => p.1 != n) = H := List.filter_eq_self.2 (fun p hp => by simpa using findH_none hf p hp)
  unfold delH putH
  rw [List.filter_cons_of_neg (by simp), h1, h1]
theorem releaseP_put {H : List (Int × HoldD)} {n : Int} (hf : findH H n = none) (e : HoldD) : releaseP (putH H n e) n = (H, 0) := by
  unfold releaseP
  rw [findH_put_same, delH_put hf]
  rfl

section
variable {l : LayD} {H : List (Int × HoldD)} {own D : List Int}
theorem freeOf_put {A n M : Nat} {H : List (Int × HoldD)} {k : Int} {d : Bool} (hf : findH H k = none) : freeOf A (putH H k (M, d)) = minusM (freeOf A H) M := by
  have h1 : H.filter (fun p => p.1 != k) = H := List.filter_eq_self.2 (fun p hp => by simpa using findH_none hf p hp)
  unfold putH
  rw [h1]
  rfl

/-- A reservation, or a taking: it is refused, or somebody new has something. -/
theorem SimP.does01 (h : SimP l H own D) (o : OpP) (ho : o.do_ = 0 ∨ o.do_ = 1) : doesP l H o = H ∨ ∃ M d, M ≠ 0 ∧ findH H o.own = none ∧ doesP l H o = putH H o.own (M, d) := by
  unfold doesP
  rcases ho with h0 | h0
  · rw [if_pos h0]
    unfold reserveP freshE
    cases hm : mayO o.own with
    | false => exact Or.inl rfl
    | true =>
      simp only [if_true]
      cases hf : findH H o.own with
      | some u => exact Or.inl rfl
      | none =>
        simp only [Option.isSome_none, Bool.false_eq_true, if_false, if_true]
        rw [assign_ref]
        by_cases hr : (refP l (wishP o.x (freeP l H))).2 = 0
        · rw [if_pos hr]
          exact Or.inr ⟨_, _, (ref_masks hr).2, trivial, rfl⟩
        · rw [if_neg hr]; exact Or.inl rfl
  · rw [if_neg (by omega), if_pos h0]
    unfold takeP freshE
    cases hm : mayO o.own with
    | false => exact Or.inl rfl
    | true =>
      simp only [if_true]
      by_cases hM : o.mask = 0
      · left
        cases hf : (findH H o.own).isSome with
        | true => simp [hM]
        | false => simp [hM]
      · cases hf : findH H o.own with
        | some u => left; simp [hM]
        | none =>
          simp only [Option.isSome_none, Bool.false_eq_true, if_false, if_true]
          rw [if_neg (show ¬ ((0 : Int) = 1) by decide), if_neg hM]
          by_cases hX : minusM o.mask (freeP l H) = 0
          · rw [if_pos hX]; exact Or.inr ⟨_, _, hM, trivial, rfl⟩
          · rw [if_neg hX]; exact Or.inl rfl
end

/-- A block that no call turns. -/
theorem PSt.far {W : World} {base b m r : Nat} {l : LayD} {H : List (Int × HoldD)} {own D : List Int} {ov dv : Value} (h : PSt W base b m r l H own D ov dv) {g : Nat} {t : TypeId} {cs : Array Value} (hb : Blk W g t cs) (h1 : t ≠ 108) (h2 : t ≠ 3) : ¬ PS m r ov dv g := by
  rintro (e | e | e | e)
  · exact h.pool.map.ne_blk hb e.symm
  · subst e; exact h1 (hb.uniq h.ref.blk).1
  · obtain ⟨cur, hc⟩ := ownsRow_block h.ref.row e
    unfold Blk at hb; rw [hb] at hc; cases hc; exact h2 rfl
  · obtain ⟨cur, hc⟩ := ownsRow_block h.ref.dn e
    unfold Blk at hb; rw [hb] at hc; cases hc; exact h2 rfl
theorem PSt.lt {W : World} {base b m r : Nat} {l : LayD} {H : List (Int × HoldD)} {own D : List Int} {ov dv : Value} (h : PSt W base b m r l H own D ov dv) {i : Nat} (hi : PS m r ov dv i) : i < W.heap.size := by
  rcases hi with rfl | hi
  · exact h.pool.map.lt
  · exact (h.ref.ge hi).2

structure Three (W : World) (g1 g2 g3 : Nat) (A B C : Nat) : Prop where
  a : Blk W g1 33 (cellsM A)
  b : Blk W g2 33 (cellsM B)
  c : Blk W g3 33 (cellsM C)
theorem Three.fr0 {W W' : World} {g1 g2 g3 A B C : Nat} (h : Three W g1 g2 g3 A B C) (hf : Fr (fun _ => False) W W') : Three W' g1 g2 g3 A B C := ⟨h.a.fr hf (fun h => h), h.b.fr hf (fun h => h), h.c.fr hf (fun h => h)⟩
theorem Three.cells {W : World} {g1 g2 g3 A B C : Nat} (h : Three W g1 g2 g3 A B C) : W.cell? ⟨g1, 0, none⟩ = some (.int .u64 (wordM A 0 : Nat)) ∧ W.cell? ⟨g1, 1, none⟩ = some (.int .u64 (wordM A 1 : Nat)) ∧ W.cell? ⟨g1, 2, none⟩ = some (.int .u64 (wordM A 2 : Nat)) ∧ W.cell? ⟨g1, 3, none⟩ = some (.int .u64 (wordM A 3 : Nat)) ∧ W.cell? ⟨g2, 0, none⟩ = some (.int .u64 (wordM B 0 : Nat)) ∧ W.cell? ⟨g2, 1, none⟩ = some (.int .u64 (wordM B 1 : Nat)) ∧ W.cell? ⟨g2, 2, none⟩ = some (.int .u64 (wordM B 2 : Nat)) ∧ W.cell? ⟨g2, 3, none⟩ = some (.int .u64 (wordM B 3 : Nat)) ∧ W.cell? ⟨g3, 0, none⟩ = some (.int .u64 (wordM C 0 : Nat)) ∧ W.cell? ⟨g3, 1, none⟩ = some (.int .u64 (wordM C 1 : Nat)) ∧ W.cell? ⟨g3, 2, none⟩ = some (.int .u64 (wordM C 2 : Nat)) ∧ W.cell? ⟨g3, 3, none⟩ = some (.int .u64 (wordM C 3 : Nat)) := by
  obtain ⟨a0, a1, a2, a3⟩ := h.a.cellsM
  obtain ⟨b0, b1, b2, b3⟩ := h.b.cellsM
  obtain ⟨c0, c1, c2, c3⟩ := h.c.cellsM
  exact ⟨a0, a1, a2, a3, b0, b1, b2, b3, c0, c1, c2, c3⟩
theorem one_cells {W : World} {g A : Nat} (h : Blk W g 33 (cellsM A)) : W.cell? ⟨g, 0, none⟩ = some (.int .u64 (wordM A 0 : Nat)) ∧ W.cell? ⟨g, 1, none⟩ = some (.int .u64 (wordM A 1 : Nat)) ∧ W.cell? ⟨g, 2, none⟩ = some (.int .u64 (wordM A 2 : Nat)) ∧ W.cell? ⟨g, 3, none⟩ = some (.int .u64 (wordM A 3 : Nat)) := h.cellsM

set_option maxRecDepth 40000 in
set_option maxHeartbeats 8000000 in
theorem back9_any (w : World) (l : LayD) (A : Option Addr) (cap : Nat) (L : List OpP) (h : OpsP w w.heap.size A L) (hl : L.length ≤ maxLen) (o : OpP) (how : o.wf) :
    Calls Try.prog 9 #[l.val, .slice A L.length cap, o.val] w fun e w' => e = .returned (.bool true) ∧ Below w.heap.size w w' := by
  have HO := Lib.hid h
  have HF := Lib.hid (((Fr.refl (fun _ => False) w).alloc (.cells #[.int .i64 l.s, .int .i64 l.p] 23)).alloc (.cells o.cells 71))
  have HX := Lib.hid ((Blk.new w 23 #[.int .i64 l.s, .int .i64 l.p]).alloc (.cells o.cells 71))
  have hy := Blk.new (w.alloc (.cells #[.int .i64 l.s, .int .i64 l.p] 23)) 71 o.cells
  rw [World.size_alloc] at hy
  have HY := Lib.hid hy
  unfold maxLen at hl
  clear h hy
  by_cases h60 : 30 < L.length
  · have b1 : decide ((30 : Int) < (L.length : Int)) = true := decide_eq_true (by omega)
    obtain ⟨s, p⟩ := l
    obtain ⟨do_, n, ⟨F, r', q, d⟩, M⟩ := o
    simp only [LayD.val, OpP.val, OpP.cells] at *
    go_enter Try.func9, Try.ntmps9
    go_wp2_with fail
    refine (live34_any _).mono ?_
    rintro e w2 ⟨rfl, hf2⟩
    go_wp2_with fail
    go_ret
    exact ⟨rfl, (HF.out.then hf2).below0⟩
  · have b1 : decide ((30 : Int) < (L.length : Int)) = false := decide_eq_false (by omega)
    have h19 := fun W => check19_any l W
    by_cases hc : l.check = 0
    · by_cases ho : o.do_ = 0 ∨ o.do_ = 1
      · have h36 := fun W => own36_any l W
        have h35 := fun W => new35_any l hc W
        have h37 := fun W => new37_any l hc W
        have HNEW := Lib.hid (fun w2 w3 b m r ov hP hR hf => PSt.new (w2 := w2) (w3 := w3) (b := b) (m := m) (r := r) (ov := ov) hc hP hR hf)
        rw [hc] at h19
        clear hc
        obtain ⟨s, p⟩ := l
        have HW := Lib.hid how
        have hn := how.own
        have HDO := Lib.hid ho
        obtain ⟨do_, n, ⟨F, r', q, d⟩, M⟩ := o
        simp only [LayD.val, OpP.val, OpP.cells] at *
        have H19 := Lib.hid h19
        have H36 := Lib.hid h36
        have H35 := Lib.hid h35
        have H37 := Lib.hid h37
        clear h19 h36 h35 h37 how
        by_cases hd0 : do_ = 0
        · have bd0 : (do_ != 0) = false := by simpa using hd0
          clear hd0 ho
          have y := fun i => HX.out.cell i
          go_enter Try.func9, Try.ntmps9
          go_wp2_with fail
          refine (H19.out _).mono ?_
          rintro e w0 ⟨rfl, hf0⟩
          clear y
          have HF0 := Lib.hid (HF.out.then hf0)
          have hx0 := HX.out.fr hf0 (fun h => h)
          have hy0 := HY.out.fr hf0 (fun h => h)
          have HX0 := Lib.hid hx0
          have HY0 := Lib.hid hy0
          have y := fun i => hx0.cell i
          have yy : w0.cell? ⟨w.heap.size + 1, 0, none⟩ = some (.int .i64 do_) := hy0.cell 0
          clear hx0 hf0 hy0
          go_wp2_with fail
          refine (H36.out _).mono ?_
          rintro e w1 ⟨rfl, hf1⟩
          clear y yy
          go_wp2_with fail
          refine (H35.out _).mono ?_
          rintro e w2 ⟨b, m, rfl, hb, hm, hP2, hf2⟩
          have hx2 := (HX0.out.fr hf1 (fun h => h)).fr hf2 (fun h => h)
          have y := fun i => hx2.cell i
          have HF2 := Lib.hid ((HF0.out.then hf1).then hf2)
          have HP2 := Lib.hid hP2
          have HY2 := Lib.hid ((HY0.out.fr hf1 (fun h => h)).fr hf2 (fun h => h))
          have hz1 := (HF0.out.then hf1).size
          clear hx2 hf1 hf2 hP2
          go_wp2_with fail
          refine (H37.out _).mono ?_
          rintro e w3 ⟨r, ov, rfl, hR3, hf3⟩
          clear y
          have HS3 := Lib.hid (HNEW.out _ _ _ _ _ _ HP2.out hR3 hf3)
          have HB3 := Lib.hid ((HF2.out.then hf3).below0)
          have HY3 := Lib.hid (HY2.out.fr hf3 (fun h => h))
          have hbase := HF2.out.size
          have hmw : w.heap.size ≤ m := Nat.le_trans hz1 hm
          clear hR3 hf3
          generalize w2.heap.size = base at *
          go_wp2_with fail
          go_loopw [9] (fun i wr => ∃ (k : Nat) (H : List (Int × HoldD)) (own D : List Int) (ov dv : Value), k ≤ L.length ∧ i = .int .i64 k ∧ PSt wr base b m r ⟨s, p⟩ H own D ov dv ∧ H.length ≤ k ∧ D.length ≤ k ∧ Below w.heap.size w wr ∧ Blk wr (w.heap.size + 1) 71 #[.int .i64 do_, .int .i64 n, .int .u64 (wordM F 0 : Nat), .int .u64 (wordM F 1 : Nat), .int .u64 (wordM F 2 : Nat), .int .u64 (wordM F 3 : Nat), .int .i64 r', .int .i64 q, .int .i64 d, .int .u64 (wordM M 0 : Nat), .int .u64 (wordM M 1 : Nat), .int .u64 (wordM M 2 : Nat), .int .u64 (wordM M 3 : Nat)]) (fun i _ => L.length - (intOf i).toNat)
          case atStart => exact ⟨0, [], _, [], _, _, Nat.zero_le _, rfl, HS3.out, Nat.le_refl _, Nat.le_refl _, HB3.out, HY3.out⟩
          case round =>
            obtain ⟨k, H, own, D, ov, dv, hk, rfl, hS, hHl, hDl, hB, hY⟩ := hrel
            have HPS := Lib.hid (fun i (hi : PS m r ov dv i) => show w.heap.size ≤ i by
              rcases hi with rfl | hi
              · exact hmw
              · exact Nat.le_trans hbase (hS.ref.ge hi).1)
            by_cases hlt : k < L.length
            · obtain ⟨g, off, rfl, hg, hel⟩ := (HO.out.below hB).el hlt
              have how := HO.out.wf _ (List.getElem_mem hlt)
              generalize L[k] = ok at *
              have h38 := does38_any wr base b m r ⟨s, p⟩ H own D ov dv hS (by omega) (by omega) ok how
              have hHl' := doesP_len ⟨s, p⟩ H ok
              generalize doesP ⟨s, p⟩ H ok = H' at *
              have HFAR := Lib.hid (hS.far hY (by decide) (by decide))
              obtain ⟨do', n', ⟨F', r'', q', d'⟩, M'⟩ := ok
              simp only [OpP.val, OpP.cells] at *
              obtain ⟨c0, c1, c2, c3, c4, c5, c6, c7, c8, c9, c10, c11, c12⟩ := hel.all
              have H38' := Lib.hid h38
              have HB := Lib.hid hB
              have HYk := Lib.hid hY
              clear hel h38 hS hB how hY
              go_wp2_with fail
              refine H38'.out.mono ?_
              rintro e w4 ⟨rfl, hN⟩
              clear c0 c1 c2 c3 c4 c5 c6 c7 c8 c9 c10 c11 c12
              obtain ⟨own', D', ov', dv', hS4, hD4, _⟩ := hN.ex
              have HB4 := Lib.hid (Fr.below_of HB.out hN.fr HPS.out (Nat.le_refl _))
              have HY4 := Lib.hid (HYk.out.fr hN.fr HFAR.out)
              have HS4 := Lib.hid hS4
              clear hS4 hN
              go_wp2_with fail
              go_roundw
              case rel => exact ⟨k + 1, H', own', D', ov', dv', by omega, by go_num, HS4.out, by omega, by omega, HB4.out, HY4.out⟩
              case measure => simp [intOf]; omega
            · obtain rfl : k = L.length := by omega
              have h39 := fun W (hW : PoolAt W b m ⟨s, p⟩ H) => free39_any W b m ⟨s, p⟩ H hW
              have h41 := fun W (hW : PoolAt W b m ⟨s, p⟩ H) => owners41_any W b m ⟨s, p⟩ H hW
              have h43 := fun W (hW : PoolAt W b m ⟨s, p⟩ H) => of43_any W b m ⟨s, p⟩ H hW n hn
              have h38 := fun W (h : PSt W base b m r ⟨s, p⟩ H own D ov dv) => does38_any W base b m r ⟨s, p⟩ H own D ov dv h (by omega) (by omega) ⟨do_, n, ⟨F, r', q, d⟩, M⟩ HW.out
              have hflt : freeP ⟨s, p⟩ H < 2 ^ 256 := by rw [← hS.sim.free]; exact havM_lt _ _
              have holt := hS.sim.of_lt n
              have hol : (ownersS H).length ≤ 100 := by rw [ownersS_length]; omega
              have hdc := hS.sim.does01 ⟨do_, n, ⟨F, r', q, d⟩, M⟩ HDO.out
              have HFP := Lib.hid (fun M d (hf : findH H n = none) => freeOf_put (A := (⟨s, p⟩ : LayD).all) (n := 0) (M := M) (d := d) hf)
              have HRP := Lib.hid (fun e (hf : findH H n = none) => releaseP_put hf e)
              have HOF := Lib.hid (fun (hf : findH H n = none) => show ofP H n = (0, false) by unfold ofP; rw [hf]; rfl)
              obtain ⟨FM, hFM⟩ : ∃ FM, freeP ⟨s, p⟩ H = FM := ⟨_, rfl⟩
              obtain ⟨NS, hNS⟩ : ∃ NS, ownersS H = NS := ⟨_, rfl⟩
              obtain ⟨⟨OM, od⟩, hOO⟩ : ∃ OO, ofP H n = OO := ⟨_, rfl⟩
              rw [hOO] at holt
              rw [hFM] at hflt
              rw [hNS] at hol
              simp only [hFM] at h39
              simp only [hNS] at h41
              simp only [hOO] at h43
              simp only [valM, Ytcefadbnmpjeiaa.cellsM, OpP.val, OpP.cells] at h39 h43 h38 holt
              have H39 := Lib.hid h39
              have H41 := Lib.hid h41
              have H43 := Lib.hid h43
              have H38' := Lib.hid h38
              have HSk := Lib.hid hS
              have HBk := Lib.hid hB
              have HYk := Lib.hid hY
              have HFM := Lib.hid hFM
              have HNS := Lib.hid hNS
              have HOO := Lib.hid hOO
              have HLTM := Lib.hid (fun i (hi : PS m r ov dv i) => hS.lt hi)
              clear h39 h41 h43 h38 hS hB hY hFM hNS hOO
              go_wp2_with fail
              refine (H39.out _ HSk.out.pool).mono ?_
              rintro e w5 ⟨rfl, hf5⟩
              have G5 := Lib.hid (hf5.alloc (.cells #[.int .u64 (wordM FM 0 : Nat), .int .u64 (wordM FM 1 : Nat), .int .u64 (wordM FM 2 : Nat), .int .u64 (wordM FM 3 : Nat)] 33))
              have HA5 := Lib.hid (Blk.new w5 33 #[.int .u64 (wordM FM 0 : Nat), .int .u64 (wordM FM 1 : Nat), .int .u64 (wordM FM 2 : Nat), .int .u64 (wordM FM 3 : Nat)])
              have hz5 := hf5.size
              clear hf5
              go_wp2_with fail
              refine (H41.out _ (HSk.out.fr0 G5.out).pool).mono ?_
              rintro e w6 ⟨v6, rfl, hr6, hf6⟩
              have G6 := Lib.hid (G5.out.then hf6)
              have HA6 := Lib.hid (HA5.out.fr hf6 (fun h => h))
              have HG6 := Lib.hid (fun g (hg : v6.ownBlock = some g) => show ¬ PS m r ov dv g from fun hi => by have h1 := (hr6.lt g hg).1; have h2 := HLTM.out g hi; simp only [World.size_alloc] at h1; omega)
              have hi6 := IntsV.of_row hr6
              obtain ⟨A6, cap6, rfl⟩ := row_shape hr6
              have HI6 := Lib.hid hi6
              have hy6 := HYk.out.fr G6.out (fun h => h)
              have yy : w6.cell? ⟨w.heap.size + 1, 1, none⟩ = some (.int .i64 n) := hy6.cell 1
              have HY6 := Lib.hid hy6
              clear hr6 hf6 hi6 hy6
              go_wp2_with fail
              refine (H43.out _ (HSk.out.fr0 G6.out).pool).mono ?_
              rintro e w7 ⟨rfl, hf7⟩
              clear yy
              have G7 := Lib.hid ((G6.out.then hf7).alloc (.cells #[.int .u64 (wordM OM 0 : Nat), .int .u64 (wordM OM 1 : Nat), .int .u64 (wordM OM 2 : Nat), .int .u64 (wordM OM 3 : Nat)] 33))
              have HA7 := Lib.hid ((HA6.out.fr hf7 (fun h => h)).alloc (.cells #[.int .u64 (wordM OM 0 : Nat), .int .u64 (wordM OM 1 : Nat), .int .u64 (wordM OM 2 : Nat), .int .u64 (wordM OM 3 : Nat)] 33))
              have HC7 := Lib.hid (Blk.new w7 33 #[.int .u64 (wordM OM 0 : Nat), .int .u64 (wordM OM 1 : Nat), .int .u64 (wordM OM 2 : Nat), .int .u64 (wordM OM 3 : Nat)])
              have HI7 := Lib.hid ((HI6.out.fr0 hf7).fr0 ((Fr.refl _ w7).alloc (.cells #[.int .u64 (wordM OM 0 : Nat), .int .u64 (wordM OM 1 : Nat), .int .u64 (wordM OM 2 : Nat), .int .u64 (wordM OM 3 : Nat)] 33)))
              have hy7 := (HY6.out.fr hf7 (fun h => h)).alloc (.cells #[.int .u64 (wordM OM 0 : Nat), .int .u64 (wordM OM 1 : Nat), .int .u64 (wordM OM 2 : Nat), .int .u64 (wordM OM 3 : Nat)] 33)
              have y0 := hy7.cell 0
              have y1 := hy7.cell 1
              have y2 := hy7.cell 2
              have y3 := hy7.cell 3
              have y4 := hy7.cell 4
              have y5 := hy7.cell 5
              have y6 := hy7.cell 6
              have y7 := hy7.cell 7
              have y8 := hy7.cell 8
              have y9 := hy7.cell 9
              have ya := hy7.cell 10
              have yb := hy7.cell 11
              have yc := hy7.cell 12
              simp only [List.getElem?_toArray, List.getElem?_cons_zero, List.getElem?_cons_succ] at y0 y1 y2 y3 y4 y5 y6 y7 y8 y9 ya yb yc
              have HY7 := Lib.hid hy7
              have HS7 := Lib.hid (HSk.out.fr0 G7.out)
              have HB7 := Lib.hid (HBk.out.trans (G7.out.below HBk.out.size (fun _ h => h.elim)))
              clear hy7 hf7
              go_wp2_with fail
              refine (H38'.out _ HS7.out).mono ?_
              rintro e w8 ⟨rfl, hN⟩
              clear y0 y1 y2 y3 y4 y5 y6 y7 y8 y9 ya yb yc
              obtain ⟨own', D', ov', dv', hS8, _, _⟩ := hN.ex
              have HB8 := Lib.hid (Fr.below_of HB7.out hN.fr HPS.out (Nat.le_refl _))
              have HA8 := Lib.hid (HA7.out.fr hN.fr (HS7.out.far HA7.out (by decide) (by decide)))
              have HC8 := Lib.hid (HC7.out.fr hN.fr (HS7.out.far HC7.out (by decide) (by decide)))
              have hy8 := HY7.out.fr hN.fr (HS7.out.far HY7.out (by decide) (by decide))
              have HI8 := Lib.hid (HI7.out.fr hN.fr HG6.out)
              have yy : w8.cell? ⟨w.heap.size + 1, 1, none⟩ = some (.int .i64 n) := hy8.cell 1
              have HY8 := Lib.hid hy8
              clear hy8
              rcases hdc with hdc | ⟨M2, d2, hM2, hfn, hdc⟩
              · rw [hdc] at hS8
                have HS8 := Lib.hid hS8
                clear hS8 hN hdc
                go_wp2_with fail
                refine (H43.out _ HS8.out.pool).mono ?_
                rintro e w9 ⟨rfl, hf9⟩
                clear yy
                have G9 := Lib.hid (hf9.alloc (.cells #[.int .u64 (wordM OM 0 : Nat), .int .u64 (wordM OM 1 : Nat), .int .u64 (wordM OM 2 : Nat), .int .u64 (wordM OM 3 : Nat)] 33))
                have hc9 := (HC8.out.fr hf9 (fun h => h)).alloc (.cells #[.int .u64 (wordM OM 0 : Nat), .int .u64 (wordM OM 1 : Nat), .int .u64 (wordM OM 2 : Nat), .int .u64 (wordM OM 3 : Nat)] 33)
                have HC9 := Lib.hid hc9
                have HA9 := Lib.hid ((HA8.out.fr hf9 (fun h => h)).alloc (.cells #[.int .u64 (wordM OM 0 : Nat), .int .u64 (wordM OM 1 : Nat), .int .u64 (wordM OM 2 : Nat), .int .u64 (wordM OM 3 : Nat)] 33))
                have z := fun i => hc9.cell i
                have yy : (w9.alloc (.cells #[.int .u64 (wordM OM 0 : Nat), .int .u64 (wordM OM 1 : Nat), .int .u64 (wordM OM 2 : Nat), .int .u64 (wordM OM 3 : Nat)] 33)).cell? ⟨w.heap.size + 1, 1, none⟩ = some (.int .i64 n) := ((HY8.out.fr hf9 (fun h => h)).alloc (.cells #[.int .u64 (wordM OM 0 : Nat), .int .u64 (wordM OM 1 : Nat), .int .u64 (wordM OM 2 : Nat), .int .u64 (wordM OM 3 : Nat)] 33)).cell 1
                have hcl : w7.heap.size < w9.heap.size := (HC8.out.fr hf9 (fun h => h)).lt
                have hqo := fun W => eq_masks holt holt 33 Try.underlying33 W
                have hqf := fun W => eq_masks hflt hflt 33 Try.underlying33 W
                rw [decide_eq_true rfl] at hqo hqf
                simp only [valM, Ytcefadbnmpjeiaa.cellsM] at hqo hqf
                clear hc9 hf9
                go_wp2_with fail
                clear z
                refine (H43.out _ (HS8.out.fr0 G9.out).pool).mono ?_
                rintro e wa ⟨rfl, hfa⟩
                clear yy
                have Ga := Lib.hid ((G9.out.then hfa).alloc (.cells #[.int .u64 (wordM OM 0 : Nat), .int .u64 (wordM OM 1 : Nat), .int .u64 (wordM OM 2 : Nat), .int .u64 (wordM OM 3 : Nat)] 33))
                have HT := Lib.hid (show Three (wa.alloc (.cells #[.int .u64 (wordM OM 0 : Nat), .int .u64 (wordM OM 1 : Nat), .int .u64 (wordM OM 2 : Nat), .int .u64 (wordM OM 3 : Nat)] 33)) w5.heap.size wa.heap.size w7.heap.size FM OM OM from ⟨(HA9.out.fr hfa (fun h => h)).alloc (.cells #[.int .u64 (wordM OM 0 : Nat), .int .u64 (wordM OM 1 : Nat), .int .u64 (wordM OM 2 : Nat), .int .u64 (wordM OM 3 : Nat)] 33), Blk.new wa 33 #[.int .u64 (wordM OM 0 : Nat), .int .u64 (wordM OM 1 : Nat), .int .u64 (wordM OM 2 : Nat), .int .u64 (wordM OM 3 : Nat)], (HC9.out.fr hfa (fun h => h)).alloc (.cells #[.int .u64 (wordM OM 0 : Nat), .int .u64 (wordM OM 1 : Nat), .int .u64 (wordM OM 2 : Nat), .int .u64 (wordM OM 3 : Nat)] 33)⟩)
                have hla : w7.heap.size < wa.heap.size := (HC9.out.fr hfa (fun h => h)).lt
                have HI := Lib.hid (HI8.out.fr0 Ga.out)
                clear hfa
                go_wp2_with fail
                have HT0 := Lib.hid (HT.out.fr0 (Fr.refl (fun _ => False) _).drew)
                have HI0 := Lib.hid (HI.out.fr0 (Fr.refl (fun _ => False) _).drew)
                have HP0 := Lib.hid (((HS8.out.fr0 Ga.out).fr0 (Fr.refl (fun _ => False) _).drew).pool)
                go_region_held3 (fun W => W.cell? ⟨w5.heap.size, 0, none⟩ = some (.int .u64 (wordM FM 0 : Nat)) ∧ W.cell? ⟨w5.heap.size, 1, none⟩ = some (.int .u64 (wordM FM 1 : Nat)) ∧ W.cell? ⟨w5.heap.size, 2, none⟩ = some (.int .u64 (wordM FM 2 : Nat)) ∧ W.cell? ⟨w5.heap.size, 3, none⟩ = some (.int .u64 (wordM FM 3 : Nat)) ∧ W.cell? ⟨wa.heap.size, 0, none⟩ = some (.int .u64 (wordM OM 0 : Nat)) ∧ W.cell? ⟨wa.heap.size, 1, none⟩ = some (.int .u64 (wordM OM 1 : Nat)) ∧ W.cell? ⟨wa.heap.size, 2, none⟩ = some (.int .u64 (wordM OM 2 : Nat)) ∧ W.cell? ⟨wa.heap.size, 3, none⟩ = some (.int .u64 (wordM OM 3 : Nat)) ∧ W.cell? ⟨w7.heap.size, 0, none⟩ = some (.int .u64 (wordM OM 0 : Nat)) ∧ W.cell? ⟨w7.heap.size, 1, none⟩ = some (.int .u64 (wordM OM 1 : Nat)) ∧ W.cell? ⟨w7.heap.size, 2, none⟩ = some (.int .u64 (wordM OM 2 : Nat)) ∧ W.cell? ⟨w7.heap.size, 3, none⟩ = some (.int .u64 (wordM OM 3 : Nat)))
                  (first | exact HT0.out.cells | exact HT1.out.cells | exact HT2.out.cells | exact HT3.out.cells | exact HT4.out.cells)
                  (first
                    | (go_at_call 39; refine (H39.out _ HP0.out).mono ?_; rintro e v1 ⟨rfl, hv1⟩; have HT1 := Lib.hid (HT0.out.fr0 hv1); have HP1 := Lib.hid (HP0.out.fr0 hv1))
                    | (go_at_call 41; refine (H41.out _ HP1.out).mono ?_; rintro e v2 ⟨x2, rfl, hrx, hv2⟩; have HT2 := Lib.hid (HT1.out.fr0 hv2); have HIX := Lib.hid (IntsV.of_row hrx); have HIY := Lib.hid ((HI0.out.fr0 hv1).fr0 hv2))
                    | (go_at_call 17; refine (same_any _ x2 _ NS NS HIX.out HIY.out (by unfold maxLen; omega) (by unfold maxLen; omega) true (by simp [Hid])).mono ?_; rintro e v3 ⟨rfl, hv3⟩; have HT3 := Lib.hid (HT2.out.fr0 hv3))
                    | (go_at_call 34; refine (live34_any _).mono ?_; rintro e v4 ⟨rfl, hv4⟩; have HT4 := Lib.hid (HT3.out.fr0 hv4)))
                have Gv := (((((Fr.refl (fun _ => False) _).drew).then hv1).then hv2).then hv3).then hv4
                have HBv := HB8.out.trans ((Ga.out.then Gv).below HB8.out.size (fun _ h => h.elim))
                go_wp2_with fail
                go_ret
                exact ⟨rfl, HBv⟩
              · rw [hdc] at hS8
                obtain ⟨hO1, hO2⟩ : OM = 0 ∧ od = false := by
                  have := HOO.out
                  rw [HOF.out hfn] at this
                  simp only [Prod.mk.injEq] at this
                  exact ⟨this.1.symm, this.2.symm⟩
                subst hO1 hO2
                have hfp : freeP ⟨s, p⟩ (putH H n (M2, d2)) = minusM FM M2 := by rw [← HFM.out]; exact HFP.out M2 d2 hfn
                have h39' := fun W (hW : PoolAt W b m ⟨s, p⟩ (putH H n (M2, d2))) => free39_any W b m ⟨s, p⟩ _ hW
                have h43' := fun W (hW : PoolAt W b m ⟨s, p⟩ (putH H n (M2, d2))) => of43_any W b m ⟨s, p⟩ _ hW n hn
                have h45' := fun W (hW : PoolAt W b m ⟨s, p⟩ (putH H n (M2, d2))) => release45_any W b m ⟨s, p⟩ _ hW n hn
                simp only [hfp] at h39'
                simp only [ofP_put] at h43'
                simp only [HRP.out (M2, d2) hfn] at h45'
                have h33 := fun W => minus_any FM M2 W
                have hM2l : M2 < 2 ^ 256 := by have := hS8.sim.of_lt n; rw [ofP_put] at this; exact this
                have hql := minusM_lt hflt M2
                generalize minusM FM M2 = X at *
                have hqx := fun W => eq_masks hql hql 33 Try.underlying33 W
                have hqm := fun W => eq_masks hM2l (show (0 : Nat) < 2 ^ 256 by decide) 33 Try.underlying33 W
                have hqf := fun W => eq_masks hflt hflt 33 Try.underlying33 W
                rw [decide_eq_true rfl] at hqx hqf
                rw [decide_eq_false hM2] at hqm
                simp only [valM, Ytcefadbnmpjeiaa.cellsM] at hqx hqm hqf h39' h43' h33
                have H39' := Lib.hid h39'
                have H43' := Lib.hid h43'
                have H45' := Lib.hid h45'
                have H33 := Lib.hid h33
                have HQX := Lib.hid hqx
                have HQF := Lib.hid hqf
                have HQM := Lib.hid hqm
                have HS8 := Lib.hid hS8
                clear hS8 hN hdc h39' h43' h45' h33 hqx hqf hqm hfp hM2 hfn hM2l hql hflt holt
                go_wp2_with fail
                refine (H43'.out _ HS8.out.pool).mono ?_
                rintro e w9 ⟨rfl, hf9⟩
                clear yy
                have G9 := Lib.hid (hf9.alloc (.cells #[.int .u64 (wordM M2 0 : Nat), .int .u64 (wordM M2 1 : Nat), .int .u64 (wordM M2 2 : Nat), .int .u64 (wordM M2 3 : Nat)] 33))
                have hc9 := (HC8.out.fr hf9 (fun h => h)).alloc (.cells #[.int .u64 (wordM M2 0 : Nat), .int .u64 (wordM M2 1 : Nat), .int .u64 (wordM M2 2 : Nat), .int .u64 (wordM M2 3 : Nat)] 33)
                have HA9 := Lib.hid ((HA8.out.fr hf9 (fun h => h)).alloc (.cells #[.int .u64 (wordM M2 0 : Nat), .int .u64 (wordM M2 1 : Nat), .int .u64 (wordM M2 2 : Nat), .int .u64 (wordM M2 3 : Nat)] 33))
                have HD9 := Lib.hid (Blk.new w9 33 #[.int .u64 (wordM M2 0 : Nat), .int .u64 (wordM M2 1 : Nat), .int .u64 (wordM M2 2 : Nat), .int .u64 (wordM M2 3 : Nat)])
                have z := fun i => hc9.cell i
                have yy : (w9.alloc (.cells #[.int .u64 (wordM M2 0 : Nat), .int .u64 (wordM M2 1 : Nat), .int .u64 (wordM M2 2 : Nat), .int .u64 (wordM M2 3 : Nat)] 33)).cell? ⟨w.heap.size + 1, 1, none⟩ = some (.int .i64 n) := ((HY8.out.fr hf9 (fun h => h)).alloc (.cells #[.int .u64 (wordM M2 0 : Nat), .int .u64 (wordM M2 1 : Nat), .int .u64 (wordM M2 2 : Nat), .int .u64 (wordM M2 3 : Nat)] 33)).cell 1
                have hcl : w7.heap.size < w9.heap.size := (HC8.out.fr hf9 (fun h => h)).lt
                have hqm := HQM.out
                clear hc9 hf9
                go_wp2_with fail
                clear z hqm
                generalize hwq : w9.alloc (.cells #[.int .u64 (wordM M2 0 : Nat), .int .u64 (wordM M2 1 : Nat), .int .u64 (wordM M2 2 : Nat), .int .u64 (wordM M2 3 : Nat)] 33) = wq at *
                clear hwq
                have l0 := Later.cell (HA9.out.cell 0)
                have l1 := Later.cell (HA9.out.cell 1)
                have l2 := Later.cell (HA9.out.cell 2)
                have l3 := Later.cell (HA9.out.cell 3)
                have m0 := Later.cell (HD9.out.cell 0)
                have m1 := Later.cell (HD9.out.cell 1)
                have m2 := Later.cell (HD9.out.cell 2)
                have m3 := Later.cell (HD9.out.cell 3)
                have ly := Later.cell yy
                have HP9 := Lib.hid ((HS8.out.fr0 G9.out).pool)
                have H39l := Lib.hid (fun (dd : Later wq) => H39'.out dd.val (HP9.out.fr0 dd.fr))
                have hqx := HQX.out
                clear yy
                refine wp_region_mid wq 10 0 (by kernel_rfl) (by kernel_rfl) (Fr.refl _ _) ?_
                simp only [List.take_succ_cons, List.take_zero, List.drop_succ_cons, List.drop_zero, Nat.reduceAdd]
                repeat (go_big_quiet_step (first
                  | (go_at_call 39; exact later_call (H39l.out _))
                  | (go_at_call 33; exact later_call (H33.out _))))
                refine wpQuiet_nil ?_
                rintro _ ⟨dd, rfl⟩
                clear l0 l1 l2 l3 m0 m1 m2 m3 ly hqx
                go_wp2_with fail
                refine (H45'.out _ (HP9.out.fr0 dd.fr)).mono ?_
                rintro e wr2 ⟨rfl, hPr, hfr⟩
                have HAr := Lib.hid (blk_m (HP9.out.fr0 dd.fr).map (HA9.out.fr dd.fr (fun h => h)) hfr)
                have HIr := Lib.hid (((HI8.out.fr0 G9.out).fr0 dd.fr).fr hfr (fun g hg e => HG6.out g hg (Or.inl e)))
                have HBr := Lib.hid ((HB8.out.trans ((G9.out.then dd.fr).below HB8.out.size (fun _ h => h.elim))).trans (hfr.below (Nat.le_trans HB8.out.size (G9.out.then dd.fr).size) (fun i e => e ▸ hmw)))
                have HPr := Lib.hid hPr
                clear hPr hfr
                go_wp2_with fail
                simp only [Mid]
                repeat (go_big_quiet_step (fail))
                refine wpQuiet_nil ?_
                rintro _ ⟨de, rfl⟩
                have HAe := Lib.hid (HAr.out.fr de.fr (fun h => h))
                have HIe := Lib.hid (HIr.out.fr0 de.fr)
                have HPe := Lib.hid (HPr.out.fr0 de.fr)
                have HBe := Lib.hid (HBr.out.trans (de.fr.below HBr.out.size (fun _ h => h.elim)))
                generalize de.val = we at *
                go_wp2_with fail
                have HT0 := Lib.hid (HAe.out.fr (Fr.refl (fun _ => False) _).drew (fun h => h))
                have HI0 := Lib.hid (HIe.out.fr0 (Fr.refl (fun _ => False) _).drew)
                have HP0 := Lib.hid (HPe.out.fr0 (Fr.refl (fun _ => False) _).drew)
                have hqf := HQF.out
                go_region_held3 (fun W => W.cell? ⟨w5.heap.size, 0, none⟩ = some (.int .u64 (wordM FM 0 : Nat)) ∧ W.cell? ⟨w5.heap.size, 1, none⟩ = some (.int .u64 (wordM FM 1 : Nat)) ∧ W.cell? ⟨w5.heap.size, 2, none⟩ = some (.int .u64 (wordM FM 2 : Nat)) ∧ W.cell? ⟨w5.heap.size, 3, none⟩ = some (.int .u64 (wordM FM 3 : Nat)))
                  (first | exact one_cells HT0.out | exact one_cells HT1.out | exact one_cells HT2.out | exact one_cells HT3.out | exact one_cells HT4.out)
                  (first
                    | (go_at_call 39; refine (H39.out _ HP0.out).mono ?_; rintro e v1 ⟨rfl, hv1⟩; have HT1 := Lib.hid (HT0.out.fr hv1 (fun h => h)); have HP1 := Lib.hid (HP0.out.fr0 hv1))
                    | (go_at_call 41; refine (H41.out _ HP1.out).mono ?_; rintro e v2 ⟨x2, rfl, hrx, hv2⟩; have HT2 := Lib.hid (HT1.out.fr hv2 (fun h => h)); have HIX := Lib.hid (IntsV.of_row hrx); have HIY := Lib.hid ((HI0.out.fr0 hv1).fr0 hv2))
                    | (go_at_call 17; refine (same_any _ x2 _ NS NS HIX.out HIY.out (by unfold maxLen; omega) (by unfold maxLen; omega) true (by simp [Hid])).mono ?_; rintro e v3 ⟨rfl, hv3⟩; have HT3 := Lib.hid (HT2.out.fr hv3 (fun h => h)))
                    | (go_at_call 34; refine (live34_any _).mono ?_; rintro e v4 ⟨rfl, hv4⟩; have HT4 := Lib.hid (HT3.out.fr hv4 (fun h => h))))
                have Gv := (((((Fr.refl (fun _ => False) _).drew).then hv1).then hv2).then hv3).then hv4
                have HBv := HBe.out.trans (Gv.below HBe.out.size (fun _ h => h.elim))
                go_wp2_with fail
                go_ret
                exact ⟨rfl, HBv⟩
        · have bd0 : (do_ != 0) = true := by simpa using hd0
          have bd1 : (do_ != 1) = false := by rcases ho with h | h; exact absurd h hd0; simpa using h
          clear hd0 ho
          have y := fun i => HX.out.cell i
          go_enter Try.func9, Try.ntmps9
          go_wp2_with fail
          refine (H19.out _).mono ?_
          rintro e w0 ⟨rfl, hf0⟩
          clear y
          have HF0 := Lib.hid (HF.out.then hf0)
          have hx0 := HX.out.fr hf0 (fun h => h)
          have hy0 := HY.out.fr hf0 (fun h => h)
          have HX0 := Lib.hid hx0
          have HY0 := Lib.hid hy0
          have y := fun i => hx0.cell i
          have yy : w0.cell? ⟨w.heap.size + 1, 0, none⟩ = some (.int .i64 do_) := hy0.cell 0
          clear hx0 hf0 hy0
          go_wp2_with fail
          refine (H36.out _).mono ?_
          rintro e w1 ⟨rfl, hf1⟩
          clear y yy
          go_wp2_with fail
          refine (H35.out _).mono ?_
          rintro e w2 ⟨b, m, rfl, hb, hm, hP2, hf2⟩
          have hx2 := (HX0.out.fr hf1 (fun h => h)).fr hf2 (fun h => h)
          have y := fun i => hx2.cell i
          have HF2 := Lib.hid ((HF0.out.then hf1).then hf2)
          have HP2 := Lib.hid hP2
          have HY2 := Lib.hid ((HY0.out.fr hf1 (fun h => h)).fr hf2 (fun h => h))
          have hz1 := (HF0.out.then hf1).size
          clear hx2 hf1 hf2 hP2
          go_wp2_with fail
          refine (H37.out _).mono ?_
          rintro e w3 ⟨r, ov, rfl, hR3, hf3⟩
          clear y
          have HS3 := Lib.hid (HNEW.out _ _ _ _ _ _ HP2.out hR3 hf3)
          have HB3 := Lib.hid ((HF2.out.then hf3).below0)
          have HY3 := Lib.hid (HY2.out.fr hf3 (fun h => h))
          have hbase := HF2.out.size
          have hmw : w.heap.size ≤ m := Nat.le_trans hz1 hm
          clear hR3 hf3
          generalize w2.heap.size = base at *
          go_wp2_with fail
          go_loopw [9] (fun i wr => ∃ (k : Nat) (H : List (Int × HoldD)) (own D : List Int) (ov dv : Value), k ≤ L.length ∧ i = .int .i64 k ∧ PSt wr base b m r ⟨s, p⟩ H own D ov dv ∧ H.length ≤ k ∧ D.length ≤ k ∧ Below w.heap.size w wr ∧ Blk wr (w.heap.size + 1) 71 #[.int .i64 do_, .int .i64 n, .int .u64 (wordM F 0 : Nat), .int .u64 (wordM F 1 : Nat), .int .u64 (wordM F 2 : Nat), .int .u64 (wordM F 3 : Nat), .int .i64 r', .int .i64 q, .int .i64 d, .int .u64 (wordM M 0 : Nat), .int .u64 (wordM M 1 : Nat), .int .u64 (wordM M 2 : Nat), .int .u64 (wordM M 3 : Nat)]) (fun i _ => L.length - (intOf i).toNat)
          case atStart => exact ⟨0, [], _, [], _, _, Nat.zero_le _, rfl, HS3.out, Nat.le_refl _, Nat.le_refl _, HB3.out, HY3.out⟩
          case round =>
            obtain ⟨k, H, own, D, ov, dv, hk, rfl, hS, hHl, hDl, hB, hY⟩ := hrel
            have HPS := Lib.hid (fun i (hi : PS m r ov dv i) => show w.heap.size ≤ i by
              rcases hi with rfl | hi
              · exact hmw
              · exact Nat.le_trans hbase (hS.ref.ge hi).1)
            by_cases hlt : k < L.length
            · obtain ⟨g, off, rfl, hg, hel⟩ := (HO.out.below hB).el hlt
              have how := HO.out.wf _ (List.getElem_mem hlt)
              generalize L[k] = ok at *
              have h38 := does38_any wr base b m r ⟨s, p⟩ H own D ov dv hS (by omega) (by omega) ok how
              have hHl' := doesP_len ⟨s, p⟩ H ok
              generalize doesP ⟨s, p⟩ H ok = H' at *
              have HFAR := Lib.hid (hS.far hY (by decide) (by decide))
              obtain ⟨do', n', ⟨F', r'', q', d'⟩, M'⟩ := ok
              simp only [OpP.val, OpP.cells] at *
              obtain ⟨c0, c1, c2, c3, c4, c5, c6, c7, c8, c9, c10, c11, c12⟩ := hel.all
              have H38' := Lib.hid h38
              have HB := Lib.hid hB
              have HYk := Lib.hid hY
              clear hel h38 hS hB how hY
              go_wp2_with fail
              refine H38'.out.mono ?_
              rintro e w4 ⟨rfl, hN⟩
              clear c0 c1 c2 c3 c4 c5 c6 c7 c8 c9 c10 c11 c12
              obtain ⟨own', D', ov', dv', hS4, hD4, _⟩ := hN.ex
              have HB4 := Lib.hid (Fr.below_of HB.out hN.fr HPS.out (Nat.le_refl _))
              have HY4 := Lib.hid (HYk.out.fr hN.fr HFAR.out)
              have HS4 := Lib.hid hS4
              clear hS4 hN
              go_wp2_with fail
              go_roundw
              case rel => exact ⟨k + 1, H', own', D', ov', dv', by omega, by go_num, HS4.out, by omega, by omega, HB4.out, HY4.out⟩
              case measure => simp [intOf]; omega
            · obtain rfl : k = L.length := by omega
              have h39 := fun W (hW : PoolAt W b m ⟨s, p⟩ H) => free39_any W b m ⟨s, p⟩ H hW
              have h41 := fun W (hW : PoolAt W b m ⟨s, p⟩ H) => owners41_any W b m ⟨s, p⟩ H hW
              have h43 := fun W (hW : PoolAt W b m ⟨s, p⟩ H) => of43_any W b m ⟨s, p⟩ H hW n hn
              have h38 := fun W (h : PSt W base b m r ⟨s, p⟩ H own D ov dv) => does38_any W base b m r ⟨s, p⟩ H own D ov dv h (by omega) (by omega) ⟨do_, n, ⟨F, r', q, d⟩, M⟩ HW.out
              have hflt : freeP ⟨s, p⟩ H < 2 ^ 256 := by rw [← hS.sim.free]; exact havM_lt _ _
              have holt := hS.sim.of_lt n
              have hol : (ownersS H).length ≤ 100 := by rw [ownersS_length]; omega
              have hdc := hS.sim.does01 ⟨do_, n, ⟨F, r', q, d⟩, M⟩ HDO.out
              have HFP := Lib.hid (fun M d (hf : findH H n = none) => freeOf_put (A := (⟨s, p⟩ : LayD).all) (n := 0) (M := M) (d := d) hf)
              have HRP := Lib.hid (fun e (hf : findH H n = none) => releaseP_put hf e)
              have HOF := Lib.hid (fun (hf : findH H n = none) => show ofP H n = (0, false) by unfold ofP; rw [hf]; rfl)
              obtain ⟨FM, hFM⟩ : ∃ FM, freeP ⟨s, p⟩ H = FM := ⟨_, rfl⟩
              obtain ⟨NS, hNS⟩ : ∃ NS, ownersS H = NS := ⟨_, rfl⟩
              obtain ⟨⟨OM, od⟩, hOO⟩ : ∃ OO, ofP H n = OO := ⟨_, rfl⟩
              rw [hOO] at holt
              rw [hFM] at hflt
              rw [hNS] at hol
              simp only [hFM] at h39
              simp only [hNS] at h41
              simp only [hOO] at h43
              simp only [valM, Ytcefadbnmpjeiaa.cellsM, OpP.val, OpP.cells] at h39 h43 h38 holt
              have H39 := Lib.hid h39
              have H41 := Lib.hid h41
              have H43 := Lib.hid h43
              have H38' := Lib.hid h38
              have HSk := Lib.hid hS
              have HBk := Lib.hid hB
              have HYk := Lib.hid hY
              have HFM := Lib.hid hFM
              have HNS := Lib.hid hNS
              have HOO := Lib.hid hOO
              have HLTM := Lib.hid (fun i (hi : PS m r ov dv i) => hS.lt hi)
              clear h39 h41 h43 h38 hS hB hY hFM hNS hOO
              go_wp2_with fail
              refine (H39.out _ HSk.out.pool).mono ?_
              rintro e w5 ⟨rfl, hf5⟩
              have G5 := Lib.hid (hf5.alloc (.cells #[.int .u64 (wordM FM 0 : Nat), .int .u64 (wordM FM 1 : Nat), .int .u64 (wordM FM 2 : Nat), .int .u64 (wordM FM 3 : Nat)] 33))
              have HA5 := Lib.hid (Blk.new w5 33 #[.int .u64 (wordM FM 0 : Nat), .int .u64 (wordM FM 1 : Nat), .int .u64 (wordM FM 2 : Nat), .int .u64 (wordM FM 3 : Nat)])
              have hz5 := hf5.size
              clear hf5
              go_wp2_with fail
              refine (H41.out _ (HSk.out.fr0 G5.out).pool).mono ?_
              rintro e w6 ⟨v6, rfl, hr6, hf6⟩
              have G6 := Lib.hid (G5.out.then hf6)
              have HA6 := Lib.hid (HA5.out.fr hf6 (fun h => h))
              have HG6 := Lib.hid (fun g (hg : v6.ownBlock = some g) => show ¬ PS m r ov dv g from fun hi => by have h1 := (hr6.lt g hg).1; have h2 := HLTM.out g hi; simp only [World.size_alloc] at h1; omega)
              have hi6 := IntsV.of_row hr6
              obtain ⟨A6, cap6, rfl⟩ := row_shape hr6
              have HI6 := Lib.hid hi6
              have hy6 := HYk.out.fr G6.out (fun h => h)
              have yy : w6.cell? ⟨w.heap.size + 1, 1, none⟩ = some (.int .i64 n) := hy6.cell 1
              have HY6 := Lib.hid hy6
              clear hr6 hf6 hi6 hy6
              go_wp2_with fail
              refine (H43.out _ (HSk.out.fr0 G6.out).pool).mono ?_
              rintro e w7 ⟨rfl, hf7⟩
              clear yy
              have G7 := Lib.hid ((G6.out.then hf7).alloc (.cells #[.int .u64 (wordM OM 0 : Nat), .int .u64 (wordM OM 1 : Nat), .int .u64 (wordM OM 2 : Nat), .int .u64 (wordM OM 3 : Nat)] 33))
              have HA7 := Lib.hid ((HA6.out.fr hf7 (fun h => h)).alloc (.cells #[.int .u64 (wordM OM 0 : Nat), .int .u64 (wordM OM 1 : Nat), .int .u64 (wordM OM 2 : Nat), .int .u64 (wordM OM 3 : Nat)] 33))
              have HC7 := Lib.hid (Blk.new w7 33 #[.int .u64 (wordM OM 0 : Nat), .int .u64 (wordM OM 1 : Nat), .int .u64 (wordM OM 2 : Nat), .int .u64 (wordM OM 3 : Nat)])
              have HI7 := Lib.hid ((HI6.out.fr0 hf7).fr0 ((Fr.refl _ w7).alloc (.cells #[.int .u64 (wordM OM 0 : Nat), .int .u64 (wordM OM 1 : Nat), .int .u64 (wordM OM 2 : Nat), .int .u64 (wordM OM 3 : Nat)] 33)))
              have hy7 := (HY6.out.fr hf7 (fun h => h)).alloc (.cells #[.int .u64 (wordM OM 0 : Nat), .int .u64 (wordM OM 1 : Nat), .int .u64 (wordM OM 2 : Nat), .int .u64 (wordM OM 3 : Nat)] 33)
              have y0 := hy7.cell 0
              have y1 := hy7.cell 1
              have y2 := hy7.cell 2
              have y3 := hy7.cell 3
              have y4 := hy7.cell 4
              have y5 := hy7.cell 5
              have y6 := hy7.cell 6
              have y7 := hy7.cell 7
              have y8 := hy7.cell 8
              have y9 := hy7.cell 9
              have ya := hy7.cell 10
              have yb := hy7.cell 11
              have yc := hy7.cell 12
              simp only [List.getElem?_toArray, List.getElem?_cons_zero, List.getElem?_cons_succ] at y0 y1 y2 y3 y4 y5 y6 y7 y8 y9 ya yb yc
              have HY7 := Lib.hid hy7
              have HS7 := Lib.hid (HSk.out.fr0 G7.out)
              have HB7 := Lib.hid (HBk.out.trans (G7.out.below HBk.out.size (fun _ h => h.elim)))
              clear hy7 hf7
              go_wp2_with fail
              refine (H38'.out _ HS7.out).mono ?_
              rintro e w8 ⟨rfl, hN⟩
              clear y0 y1 y2 y3 y4 y5 y6 y7 y8 y9 ya yb yc
              obtain ⟨own', D', ov', dv', hS8, _, _⟩ := hN.ex
              have HB8 := Lib.hid (Fr.below_of HB7.out hN.fr HPS.out (Nat.le_refl _))
              have HA8 := Lib.hid (HA7.out.fr hN.fr (HS7.out.far HA7.out (by decide) (by decide)))
              have HC8 := Lib.hid (HC7.out.fr hN.fr (HS7.out.far HC7.out (by decide) (by decide)))
              have hy8 := HY7.out.fr hN.fr (HS7.out.far HY7.out (by decide) (by decide))
              have HI8 := Lib.hid (HI7.out.fr hN.fr HG6.out)
              have yy : w8.cell? ⟨w.heap.size + 1, 1, none⟩ = some (.int .i64 n) := hy8.cell 1
              have HY8 := Lib.hid hy8
              clear hy8
              rcases hdc with hdc | ⟨M2, d2, hM2, hfn, hdc⟩
              · rw [hdc] at hS8
                have HS8 := Lib.hid hS8
                clear hS8 hN hdc
                go_wp2_with fail
                refine (H43.out _ HS8.out.pool).mono ?_
                rintro e w9 ⟨rfl, hf9⟩
                clear yy
                have G9 := Lib.hid (hf9.alloc (.cells #[.int .u64 (wordM OM 0 : Nat), .int .u64 (wordM OM 1 : Nat), .int .u64 (wordM OM 2 : Nat), .int .u64 (wordM OM 3 : Nat)] 33))
                have hc9 := (HC8.out.fr hf9 (fun h => h)).alloc (.cells #[.int .u64 (wordM OM 0 : Nat), .int .u64 (wordM OM 1 : Nat), .int .u64 (wordM OM 2 : Nat), .int .u64 (wordM OM 3 : Nat)] 33)
                have HC9 := Lib.hid hc9
                have HA9 := Lib.hid ((HA8.out.fr hf9 (fun h => h)).alloc (.cells #[.int .u64 (wordM OM 0 : Nat), .int .u64 (wordM OM 1 : Nat), .int .u64 (wordM OM 2 : Nat), .int .u64 (wordM OM 3 : Nat)] 33))
                have z := fun i => hc9.cell i
                have yy : (w9.alloc (.cells #[.int .u64 (wordM OM 0 : Nat), .int .u64 (wordM OM 1 : Nat), .int .u64 (wordM OM 2 : Nat), .int .u64 (wordM OM 3 : Nat)] 33)).cell? ⟨w.heap.size + 1, 1, none⟩ = some (.int .i64 n) := ((HY8.out.fr hf9 (fun h => h)).alloc (.cells #[.int .u64 (wordM OM 0 : Nat), .int .u64 (wordM OM 1 : Nat), .int .u64 (wordM OM 2 : Nat), .int .u64 (wordM OM 3 : Nat)] 33)).cell 1
                have hcl : w7.heap.size < w9.heap.size := (HC8.out.fr hf9 (fun h => h)).lt
                have hqo := fun W => eq_masks holt holt 33 Try.underlying33 W
                have hqf := fun W => eq_masks hflt hflt 33 Try.underlying33 W
                rw [decide_eq_true rfl] at hqo hqf
                simp only [valM, Ytcefadbnmpjeiaa.cellsM] at hqo hqf
                clear hc9 hf9
                go_wp2_with fail
                clear z
                refine (H43.out _ (HS8.out.fr0 G9.out).pool).mono ?_
                rintro e wa ⟨rfl, hfa⟩
                clear yy
                have Ga := Lib.hid ((G9.out.then hfa).alloc (.cells #[.int .u64 (wordM OM 0 : Nat), .int .u64 (wordM OM 1 : Nat), .int .u64 (wordM OM 2 : Nat), .int .u64 (wordM OM 3 : Nat)] 33))
                have HT := Lib.hid (show Three (wa.alloc (.cells #[.int .u64 (wordM OM 0 : Nat), .int .u64 (wordM OM 1 : Nat), .int .u64 (wordM OM 2 : Nat), .int .u64 (wordM OM 3 : Nat)] 33)) w5.heap.size wa.heap.size w7.heap.size FM OM OM from ⟨(HA9.out.fr hfa (fun h => h)).alloc (.cells #[.int .u64 (wordM OM 0 : Nat), .int .u64 (wordM OM 1 : Nat), .int .u64 (wordM OM 2 : Nat), .int .u64 (wordM OM 3 : Nat)] 33), Blk.new wa 33 #[.int .u64 (wordM OM 0 : Nat), .int .u64 (wordM OM 1 : Nat), .int .u64 (wordM OM 2 : Nat), .int .u64 (wordM OM 3 : Nat)], (HC9.out.fr hfa (fun h => h)).alloc (.cells #[.int .u64 (wordM OM 0 : Nat), .int .u64 (wordM OM 1 : Nat), .int .u64 (wordM OM 2 : Nat), .int .u64 (wordM OM 3 : Nat)] 33)⟩)
                have hla : w7.heap.size < wa.heap.size := (HC9.out.fr hfa (fun h => h)).lt
                have HI := Lib.hid (HI8.out.fr0 Ga.out)
                clear hfa
                go_wp2_with fail
                have HT0 := Lib.hid (HT.out.fr0 (Fr.refl (fun _ => False) _).drew)
                have HI0 := Lib.hid (HI.out.fr0 (Fr.refl (fun _ => False) _).drew)
                have HP0 := Lib.hid (((HS8.out.fr0 Ga.out).fr0 (Fr.refl (fun _ => False) _).drew).pool)
                go_region_held3 (fun W => W.cell? ⟨w5.heap.size, 0, none⟩ = some (.int .u64 (wordM FM 0 : Nat)) ∧ W.cell? ⟨w5.heap.size, 1, none⟩ = some (.int .u64 (wordM FM 1 : Nat)) ∧ W.cell? ⟨w5.heap.size, 2, none⟩ = some (.int .u64 (wordM FM 2 : Nat)) ∧ W.cell? ⟨w5.heap.size, 3, none⟩ = some (.int .u64 (wordM FM 3 : Nat)) ∧ W.cell? ⟨wa.heap.size, 0, none⟩ = some (.int .u64 (wordM OM 0 : Nat)) ∧ W.cell? ⟨wa.heap.size, 1, none⟩ = some (.int .u64 (wordM OM 1 : Nat)) ∧ W.cell? ⟨wa.heap.size, 2, none⟩ = some (.int .u64 (wordM OM 2 : Nat)) ∧ W.cell? ⟨wa.heap.size, 3, none⟩ = some (.int .u64 (wordM OM 3 : Nat)) ∧ W.cell? ⟨w7.heap.size, 0, none⟩ = some (.int .u64 (wordM OM 0 : Nat)) ∧ W.cell? ⟨w7.heap.size, 1, none⟩ = some (.int .u64 (wordM OM 1 : Nat)) ∧ W.cell? ⟨w7.heap.size, 2, none⟩ = some (.int .u64 (wordM OM 2 : Nat)) ∧ W.cell? ⟨w7.heap.size, 3, none⟩ = some (.int .u64 (wordM OM 3 : Nat)))
                  (first | exact HT0.out.cells | exact HT1.out.cells | exact HT2.out.cells | exact HT3.out.cells | exact HT4.out.cells)
                  (first
                    | (go_at_call 39; refine (H39.out _ HP0.out).mono ?_; rintro e v1 ⟨rfl, hv1⟩; have HT1 := Lib.hid (HT0.out.fr0 hv1); have HP1 := Lib.hid (HP0.out.fr0 hv1))
                    | (go_at_call 41; refine (H41.out _ HP1.out).mono ?_; rintro e v2 ⟨x2, rfl, hrx, hv2⟩; have HT2 := Lib.hid (HT1.out.fr0 hv2); have HIX := Lib.hid (IntsV.of_row hrx); have HIY := Lib.hid ((HI0.out.fr0 hv1).fr0 hv2))
                    | (go_at_call 17; refine (same_any _ x2 _ NS NS HIX.out HIY.out (by unfold maxLen; omega) (by unfold maxLen; omega) true (by simp [Hid])).mono ?_; rintro e v3 ⟨rfl, hv3⟩; have HT3 := Lib.hid (HT2.out.fr0 hv3))
                    | (go_at_call 34; refine (live34_any _).mono ?_; rintro e v4 ⟨rfl, hv4⟩; have HT4 := Lib.hid (HT3.out.fr0 hv4)))
                have Gv := (((((Fr.refl (fun _ => False) _).drew).then hv1).then hv2).then hv3).then hv4
                have HBv := HB8.out.trans ((Ga.out.then Gv).below HB8.out.size (fun _ h => h.elim))
                go_wp2_with fail
                go_ret
                exact ⟨rfl, HBv⟩
              · rw [hdc] at hS8
                obtain ⟨hO1, hO2⟩ : OM = 0 ∧ od = false := by
                  have := HOO.out
                  rw [HOF.out hfn] at this
                  simp only [Prod.mk.injEq] at this
                  exact ⟨this.1.symm, this.2.symm⟩
                subst hO1 hO2
                have hfp : freeP ⟨s, p⟩ (putH H n (M2, d2)) = minusM FM M2 := by rw [← HFM.out]; exact HFP.out M2 d2 hfn
                have h39' := fun W (hW : PoolAt W b m ⟨s, p⟩ (putH H n (M2, d2))) => free39_any W b m ⟨s, p⟩ _ hW
                have h43' := fun W (hW : PoolAt W b m ⟨s, p⟩ (putH H n (M2, d2))) => of43_any W b m ⟨s, p⟩ _ hW n hn
                have h45' := fun W (hW : PoolAt W b m ⟨s, p⟩ (putH H n (M2, d2))) => release45_any W b m ⟨s, p⟩ _ hW n hn
                simp only [hfp] at h39'
                simp only [ofP_put] at h43'
                simp only [HRP.out (M2, d2) hfn] at h45'
                have h33 := fun W => minus_any FM M2 W
                have hM2l : M2 < 2 ^ 256 := by have := hS8.sim.of_lt n; rw [ofP_put] at this; exact this
                have hql := minusM_lt hflt M2
                generalize minusM FM M2 = X at *
                have hqx := fun W => eq_masks hql hql 33 Try.underlying33 W
                have hqm := fun W => eq_masks hM2l (show (0 : Nat) < 2 ^ 256 by decide) 33 Try.underlying33 W
                have hqf := fun W => eq_masks hflt hflt 33 Try.underlying33 W
                rw [decide_eq_true rfl] at hqx hqf
                rw [decide_eq_false hM2] at hqm
                simp only [valM, Ytcefadbnmpjeiaa.cellsM] at hqx hqm hqf h39' h43' h33
                have H39' := Lib.hid h39'
                have H43' := Lib.hid h43'
                have H45' := Lib.hid h45'
                have H33 := Lib.hid h33
                have HQX := Lib.hid hqx
                have HQF := Lib.hid hqf
                have HQM := Lib.hid hqm
                have HS8 := Lib.hid hS8
                clear hS8 hN hdc h39' h43' h45' h33 hqx hqf hqm hfp hM2 hfn hM2l hql hflt holt
                go_wp2_with fail
                refine (H43'.out _ HS8.out.pool).mono ?_
                rintro e w9 ⟨rfl, hf9⟩
                clear yy
                have G9 := Lib.hid (hf9.alloc (.cells #[.int .u64 (wordM M2 0 : Nat), .int .u64 (wordM M2 1 : Nat), .int .u64 (wordM M2 2 : Nat), .int .u64 (wordM M2 3 : Nat)] 33))
                have hc9 := (HC8.out.fr hf9 (fun h => h)).alloc (.cells #[.int .u64 (wordM M2 0 : Nat), .int .u64 (wordM M2 1 : Nat), .int .u64 (wordM M2 2 : Nat), .int .u64 (wordM M2 3 : Nat)] 33)
                have HA9 := Lib.hid ((HA8.out.fr hf9 (fun h => h)).alloc (.cells #[.int .u64 (wordM M2 0 : Nat), .int .u64 (wordM M2 1 : Nat), .int .u64 (wordM M2 2 : Nat), .int .u64 (wordM M2 3 : Nat)] 33))
                have HD9 := Lib.hid (Blk.new w9 33 #[.int .u64 (wordM M2 0 : Nat), .int .u64 (wordM M2 1 : Nat), .int .u64 (wordM M2 2 : Nat), .int .u64 (wordM M2 3 : Nat)])
                have z := fun i => hc9.cell i
                have yy : (w9.alloc (.cells #[.int .u64 (wordM M2 0 : Nat), .int .u64 (wordM M2 1 : Nat), .int .u64 (wordM M2 2 : Nat), .int .u64 (wordM M2 3 : Nat)] 33)).cell? ⟨w.heap.size + 1, 1, none⟩ = some (.int .i64 n) := ((HY8.out.fr hf9 (fun h => h)).alloc (.cells #[.int .u64 (wordM M2 0 : Nat), .int .u64 (wordM M2 1 : Nat), .int .u64 (wordM M2 2 : Nat), .int .u64 (wordM M2 3 : Nat)] 33)).cell 1
                have hcl : w7.heap.size < w9.heap.size := (HC8.out.fr hf9 (fun h => h)).lt
                have hqm := HQM.out
                clear hc9 hf9
                go_wp2_with fail
                clear z hqm
                generalize hwq : w9.alloc (.cells #[.int .u64 (wordM M2 0 : Nat), .int .u64 (wordM M2 1 : Nat), .int .u64 (wordM M2 2 : Nat), .int .u64 (wordM M2 3 : Nat)] 33) = wq at *
                clear hwq
                have l0 := Later.cell (HA9.out.cell 0)
                have l1 := Later.cell (HA9.out.cell 1)
                have l2 := Later.cell (HA9.out.cell 2)
                have l3 := Later.cell (HA9.out.cell 3)
                have m0 := Later.cell (HD9.out.cell 0)
                have m1 := Later.cell (HD9.out.cell 1)
                have m2 := Later.cell (HD9.out.cell 2)
                have m3 := Later.cell (HD9.out.cell 3)
                have ly := Later.cell yy
                have HP9 := Lib.hid ((HS8.out.fr0 G9.out).pool)
                have H39l := Lib.hid (fun (dd : Later wq) => H39'.out dd.val (HP9.out.fr0 dd.fr))
                have hqx := HQX.out
                clear yy
                refine wp_region_mid wq 10 0 (by kernel_rfl) (by kernel_rfl) (Fr.refl _ _) ?_
                simp only [List.take_succ_cons, List.take_zero, List.drop_succ_cons, List.drop_zero, Nat.reduceAdd]
                repeat (go_big_quiet_step (first
                  | (go_at_call 39; exact later_call (H39l.out _))
                  | (go_at_call 33; exact later_call (H33.out _))))
                refine wpQuiet_nil ?_
                rintro _ ⟨dd, rfl⟩
                clear l0 l1 l2 l3 m0 m1 m2 m3 ly hqx
                go_wp2_with fail
                refine (H45'.out _ (HP9.out.fr0 dd.fr)).mono ?_
                rintro e wr2 ⟨rfl, hPr, hfr⟩
                have HAr := Lib.hid (blk_m (HP9.out.fr0 dd.fr).map (HA9.out.fr dd.fr (fun h => h)) hfr)
                have HIr := Lib.hid (((HI8.out.fr0 G9.out).fr0 dd.fr).fr hfr (fun g hg e => HG6.out g hg (Or.inl e)))
                have HBr := Lib.hid ((HB8.out.trans ((G9.out.then dd.fr).below HB8.out.size (fun _ h => h.elim))).trans (hfr.below (Nat.le_trans HB8.out.size (G9.out.then dd.fr).size) (fun i e => e ▸ hmw)))
                have HPr := Lib.hid hPr
                clear hPr hfr
                go_wp2_with fail
                simp only [Mid]
                repeat (go_big_quiet_step (fail))
                refine wpQuiet_nil ?_
                rintro _ ⟨de, rfl⟩
                have HAe := Lib.hid (HAr.out.fr de.fr (fun h => h))
                have HIe := Lib.hid (HIr.out.fr0 de.fr)
                have HPe := Lib.hid (HPr.out.fr0 de.fr)
                have HBe := Lib.hid (HBr.out.trans (de.fr.below HBr.out.size (fun _ h => h.elim)))
                generalize de.val = we at *
                go_wp2_with fail
                have HT0 := Lib.hid (HAe.out.fr (Fr.refl (fun _ => False) _).drew (fun h => h))
                have HI0 := Lib.hid (HIe.out.fr0 (Fr.refl (fun _ => False) _).drew)
                have HP0 := Lib.hid (HPe.out.fr0 (Fr.refl (fun _ => False) _).drew)
                have hqf := HQF.out
                go_region_held3 (fun W => W.cell? ⟨w5.heap.size, 0, none⟩ = some (.int .u64 (wordM FM 0 : Nat)) ∧ W.cell? ⟨w5.heap.size, 1, none⟩ = some (.int .u64 (wordM FM 1 : Nat)) ∧ W.cell? ⟨w5.heap.size, 2, none⟩ = some (.int .u64 (wordM FM 2 : Nat)) ∧ W.cell? ⟨w5.heap.size, 3, none⟩ = some (.int .u64 (wordM FM 3 : Nat)))
                  (first | exact one_cells HT0.out | exact one_cells HT1.out | exact one_cells HT2.out | exact one_cells HT3.out | exact one_cells HT4.out)
                  (first
                    | (go_at_call 39; refine (H39.out _ HP0.out).mono ?_; rintro e v1 ⟨rfl, hv1⟩; have HT1 := Lib.hid (HT0.out.fr hv1 (fun h => h)); have HP1 := Lib.hid (HP0.out.fr0 hv1))
                    | (go_at_call 41; refine (H41.out _ HP1.out).mono ?_; rintro e v2 ⟨x2, rfl, hrx, hv2⟩; have HT2 := Lib.hid (HT1.out.fr hv2 (fun h => h)); have HIX := Lib.hid (IntsV.of_row hrx); have HIY := Lib.hid ((HI0.out.fr0 hv1).fr0 hv2))
                    | (go_at_call 17; refine (same_any _ x2 _ NS NS HIX.out HIY.out (by unfold maxLen; omega) (by unfold maxLen; omega) true (by simp [Hid])).mono ?_; rintro e v3 ⟨rfl, hv3⟩; have HT3 := Lib.hid (HT2.out.fr hv3 (fun h => h)))
                    | (go_at_call 34; refine (live34_any _).mono ?_; rintro e v4 ⟨rfl, hv4⟩; have HT4 := Lib.hid (HT3.out.fr hv4 (fun h => h))))
                have Gv := (((((Fr.refl (fun _ => False) _).drew).then hv1).then hv2).then hv3).then hv4
                have HBv := HBe.out.trans (Gv.below HBe.out.size (fun _ h => h.elim))
                go_wp2_with fail
                go_ret
                exact ⟨rfl, HBv⟩
      · have c0 : (o.do_ != 0) = true := by simpa using fun h => ho (Or.inl h)
        have c1 : (o.do_ != 1) = true := by simpa using fun h => ho (Or.inr h)
        rw [hc] at h19
        clear hc ho
        obtain ⟨s, p⟩ := l
        obtain ⟨do_, n, ⟨F, r', q, d⟩, M⟩ := o
        simp only [LayD.val, OpP.val, OpP.cells] at *
        have H19 := Lib.hid h19
        clear h19
        have y := fun i => HX.out.cell i
        go_enter Try.func9, Try.ntmps9
        go_wp2_with fail
        refine (H19.out _).mono ?_
        rintro e w1 ⟨rfl, hf1⟩
        have hy1 := HY.out.fr hf1 (fun h => h)
        have yy : w1.cell? ⟨w.heap.size + 1, 0, none⟩ = some (.int .i64 do_) := hy1.cell 0
        clear y hy1
        go_wp2_with fail
        refine (live34_any _).mono ?_
        rintro e w4 ⟨rfl, hf4⟩
        go_wp2_with fail
        go_ret
        exact ⟨rfl, ((HF.out.then hf1).then hf4).below0⟩
    · have b2 : (l.check != 0) = true := by simpa using hc
      generalize l.check = ck at *
      clear hc
      obtain ⟨s, p⟩ := l
      obtain ⟨do_, n, ⟨F, r', q, d⟩, M⟩ := o
      simp only [LayD.val, OpP.val, OpP.cells] at *
      have H19 := Lib.hid h19
      clear h19
      have y := fun i => HX.out.cell i
      go_enter Try.func9, Try.ntmps9
      go_wp2_with fail
      refine (H19.out _).mono ?_
      rintro e w1 ⟨rfl, hf1⟩
      clear y
      go_wp2_with fail
      refine (live34_any _).mono ?_
      rintro e w4 ⟨rfl, hf4⟩
      go_wp2_with fail
      go_ret
      exact ⟨rfl, ((HF.out.then hf1).then hf4).below0⟩

end Go.Proofs.Ytcefadbnmpjeiaa
