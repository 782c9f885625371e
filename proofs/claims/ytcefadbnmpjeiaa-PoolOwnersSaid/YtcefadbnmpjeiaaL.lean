/-
  The program's Assign, walked (made by gen_assign.py).
-/
import Derived.Test.YtcefadbnmpjeiaaK
namespace Go.Proofs.Ytcefadbnmpjeiaa
open Go.RowKit Go.Maps Go.Shelf
attribute [local go_sem] Oper.semAt_some

theorem foldA_more (F q : Nat) : ∀ (L : List Int) (st : List Nat × List Int), st.1 <+: (L.foldl (stepA F q) st).1
  | [], st => List.prefix_rfl
  | x :: L, st => by
    rw [List.foldl_cons]
    refine List.IsPrefix.trans ?_ (foldA_more F q L _)
    unfold stepA
    split
    · split
      · exact List.prefix_rfl
      · exact List.prefix_append _ _
    · exact List.prefix_rfl
theorem foldA_prefix (F q : Nat) {pre L : List Int} (h : pre <+: L) : (foldA F q pre).1 <+: (foldA F q L).1 := by
  obtain ⟨t, rfl⟩ := h
  unfold foldA
  rw [List.foldl_append]
  exact foldA_more F q t _

/-- What Assign answers over cores in an order. -/
def asg (F r q : Nat) (L : List Int) : List Nat × Int := if r ≤ (foldA F q L).1.length then ((foldA F q L).1.take r, 0) else ([], 12)


set_option maxRecDepth 20000 in
set_option maxHeartbeats 4000000 in
theorem assign24_block (s p : Nat) (hsb : 1 ≤ s ∧ s ≤ 8) (hpb : 1 ≤ p ∧ p ≤ 64) (hsp : s * p ≤ 256) (F r q : Nat) (hr : 1 ≤ r ∧ r ≤ 32) (hq : 1 ≤ q ∧ q ≤ 256) (w : World) (res : List Nat × Int) (hres : Hid (res = asg F r q (upTo (s * p)))) :
    Calls Try.prog 24 #[.agg #[.int .i64 s, .int .i64 p], .agg #[.int .u64 (wordM F 0 : Nat), .int .u64 (wordM F 1 : Nat), .int .u64 (wordM F 2 : Nat), .int .u64 (wordM F 3 : Nat), .int .i64 r, .int .i64 q, .int .i64 0]] w fun e w' => ∃ v, e = .returned (.tuple #[v, .int .i64 res.2]) ∧ w'.ownsRow w.heap.size 33 4 v res.1.length (flatM res.1) ∧ Fr (fun _ => False) w w' := by
  obtain ⟨i0, hi, hz0, hz1, hz2⟩ := info_parts info3
  obtain ⟨j0, hj, hy0, hy1, hy2⟩ := info_parts info33
  have hmay := nat_may hsb hpb hsp
  have h49 := fun W => (callsIn_wide (n := 9)).2 (of49_any 0 W)
  rw [show ofV 0 = (.func (.func 77) #[] #[], true) from rfl] at h49
  have h50 := fun W => (callsIn_wide (n := 9)).2 (may50_any ⟨s, p⟩ W)
  rw [decide_eq_true hmay] at h50
  have hmk := fun W => (callsIn_wide (n := 9)).2 (block77_any ⟨s, p⟩ W)
  have h54 := fun W => (callsIn_wide (n := 9)).2 (in54_any r 1 32 W)
  rw [decide_eq_true (show (1 : Int) ≤ r ∧ (r : Int) ≤ 32 by omega)] at h54
  have h54' := fun W => (callsIn_wide (n := 9)).2 (in54_any q 1 256 W)
  rw [decide_eq_true (show (1 : Int) ≤ q ∧ (q : Int) ≤ 256 by omega)] at h54'
  simp only [LayD.val] at h50 hmk
  have HB2 := Lib.hid ((((Blk.new w 28 #[.int .i64 s, .int .i64 p]).alloc (.cells #[.int .u64 (wordM F 0 : Nat), .int .u64 (wordM F 1 : Nat), .int .u64 (wordM F 2 : Nat), .int .u64 (wordM F 3 : Nat), .int .i64 r, .int .i64 q, .int .i64 0] 50)).alloc (.cells #[.slice none 0 0] 46)).alloc (.cells #[.int .i64 0] 25))
  have B3 := ((Blk.new (w.alloc (.cells #[.int .i64 s, .int .i64 p] 28)) 50 #[.int .u64 (wordM F 0 : Nat), .int .u64 (wordM F 1 : Nat), .int .u64 (wordM F 2 : Nat), .int .u64 (wordM F 3 : Nat), .int .i64 r, .int .i64 q, .int .i64 0]).alloc (.cells #[.slice none 0 0] 46)).alloc (.cells #[.int .i64 0] 25)
  have B4 := (Blk.new ((w.alloc (.cells #[.int .i64 s, .int .i64 p] 28)).alloc (.cells #[.int .u64 (wordM F 0 : Nat), .int .u64 (wordM F 1 : Nat), .int .u64 (wordM F 2 : Nat), .int .u64 (wordM F 3 : Nat), .int .i64 r, .int .i64 q, .int .i64 0] 50)) 46 #[.slice none 0 0]).alloc (.cells #[.int .i64 0] 25)
  have B5 := Blk.new (((w.alloc (.cells #[.int .i64 s, .int .i64 p] 28)).alloc (.cells #[.int .u64 (wordM F 0 : Nat), .int .u64 (wordM F 1 : Nat), .int .u64 (wordM F 2 : Nat), .int .u64 (wordM F 3 : Nat), .int .i64 r, .int .i64 q, .int .i64 0] 50)).alloc (.cells #[.slice none 0 0] 46)) 25 #[.int .i64 0]
  have F0 := ((((Fr.refl (fun _ => False) w).alloc (.cells #[.int .i64 s, .int .i64 p] 28)).alloc (.cells #[.int .u64 (wordM F 0 : Nat), .int .u64 (wordM F 1 : Nat), .int .u64 (wordM F 2 : Nat), .int .u64 (wordM F 3 : Nat), .int .i64 r, .int .i64 q, .int .i64 0] 50)).alloc (.cells #[.slice none 0 0] 46)).alloc (.cells #[.int .i64 0] 25)
  simp only [World.size_alloc] at B3 B4 B5
  have HB3 := Lib.hid B3
  have HB4 := Lib.hid B4
  have HB5 := Lib.hid B5
  have HF0 := Lib.hid F0
  have H49 := Lib.hid h49
  have H50 := Lib.hid h50
  have HMK := Lib.hid hmk
  have H54 := Lib.hid h54
  have H54' := Lib.hid h54'
  have HMAY := Lib.hid hmay
  clear h49 h50 hmk hmay h54 h54' B3 B4 B5 F0
  have hf49 : Fence.wide.fn 49 := trivial
  have hf50 : Fence.wide.fn 50 := trivial
  have hf54 : Fence.wide.fn 54 := trivial
  have hfmk : Fence.wide.fn 77 := trivial
  refine (callsIn_wide (n := 10)).1 ?_
  refine callsIn_of_wp_marks Try.func24 rfl trivial ?_ rfl
  simp only [Try.ntmps24, List.size_toArray, List.length_cons, List.length_nil, Nat.reduceAdd, Nat.reduceSub, Array.replicate_succ, Array.replicate_zero, List.push_toArray, List.append_toArray, List.nil_append, List.cons_append]
  have e0 := fun i => HB3.out.cell i
  gi_wp2_with (gi_at_call 49; refine (H49.out _).mono ?_; rintro e w1 ⟨rfl, hf1⟩; clear e0; have hB1 := HB2.out.fr hf1 (fun h => h); have hC1 := HB3.out.fr hf1 (fun h => h); have hz1' := hC1.lt; have hy1' := hB1.lt; have e1 := fun i => (hB1.alloc (.cells #[.func (.func 77) #[] #[]] 87)).cell i)
  gi_wp2_with (gi_at_call 50; refine (H50.out _).mono ?_; rintro e w2 ⟨rfl, hf2⟩; clear e1; have hD2 := (Blk.new w1 87 #[.func (.func 77) #[] #[]]).fr hf2 (fun h => h); have hB2 := (hB1.alloc (.cells #[.func (.func 77) #[] #[]] 87)).fr hf2 (fun h => h); have hC2 := (hC1.alloc (.cells #[.func (.func 77) #[] #[]] 87)).fr hf2 (fun h => h); have hz2' := hD2.lt; have c2 := fun i => hC2.cell i)
  gi_wp2_with (first | (gi_at_call 54; refine (H54.out _).mono ?_; clear H54; rintro e w3 ⟨rfl, rfl⟩))
  gi_wp2_with (first | (gi_at_call 54; refine (H54'.out _).mono ?_; clear H54'; rintro e w3 ⟨rfl, rfl⟩; have d2 := fun i => ((hD2.alloc (.cells #[.slice none 0 0] 46)).alloc (.cells #[.slice none 0 0] 24)).cell i; have e2 := fun i => ((hB2.alloc (.cells #[.slice none 0 0] 46)).alloc (.cells #[.slice none 0 0] 24)).cell i))
  gi_wp2_with (gi_at_call 77; refine (HMK.out _).mono ?_; rintro e w3 ⟨rfl, rfl⟩)
  clear d2 e2 c2
  have hF2 : Fr (fun _ => False) w w2 := (((HF0.out).then hf1).alloc _).then hf2
  have hsz2 := hF2.size
  have hsz1 : w.heap.size + 4 ≤ w1.heap.size := by have := hf1.size; simpa using this
  have R4 := (((HB4.out.fr hf1 (fun h => h)).alloc (.cells #[.func (.func 77) #[] #[]] 87)).fr hf2 (fun h => h))
  have R5 := (((HB5.out.fr hf1 (fun h => h)).alloc (.cells #[.func (.func 77) #[] #[]] 87)).fr hf2 (fun h => h))
  have M8 := ((Blk.new w2 46 #[.slice none 0 0]).alloc (.cells #[.slice none 0 0] 24)).alloc (.cells #[.int .i64 s, .int .i64 p] 28)
  have K9 := (Blk.new (w2.alloc (.cells #[.slice none 0 0] 46)) 24 #[.slice none 0 0]).alloc (.cells #[.int .i64 s, .int .i64 p] 28)
  have bN := Blk.new ((w2.alloc (.cells #[.slice none 0 0] 46)).alloc (.cells #[.slice none 0 0] 24)) 28 #[.int .i64 s, .int .i64 p]
  have R4' := ((R4.alloc (.cells #[.slice none 0 0] 46)).alloc (.cells #[.slice none 0 0] 24)).alloc (.cells #[.int .i64 s, .int .i64 p] 28)
  have R5' := ((R5.alloc (.cells #[.slice none 0 0] 46)).alloc (.cells #[.slice none 0 0] 24)).alloc (.cells #[.int .i64 s, .int .i64 p] 28)
  have C3 := ((hC2.alloc (.cells #[.slice none 0 0] 46)).alloc (.cells #[.slice none 0 0] 24)).alloc (.cells #[.int .i64 s, .int .i64 p] 28)
  have hB0 : Below w.heap.size w (((w2.alloc (.cells #[.slice none 0 0] 46)).alloc (.cells #[.slice none 0 0] 24)).alloc (.cells #[.int .i64 s, .int .i64 p] 28)) := (((hF2.alloc _).alloc _).alloc _).below (Nat.le_refl _) (fun _ h => h.elim)
  have hWs : (((w2.alloc (.cells #[.slice none 0 0] 46)).alloc (.cells #[.slice none 0 0] 24)).alloc (.cells #[.int .i64 s, .int .i64 p] 28)).heap.size = w2.heap.size + 3 := by simp
  simp only [World.size_alloc] at K9 bN
  generalize hA : w2.heap.size = A at *
  have hcnt := nat_count hsb hpb hsp
  have hstp := block_stops 9 (by omega) (A + 1 + 1) (fun i => i = A + 1 ∨ i = A ∨ i = w.heap.size + 1 + 1 ∨ i = w.heap.size + 1 + 1 + 1) ⟨s, p⟩ (s * p) hcnt _ bN
  generalize hW3 : ((w2.alloc (.cells #[.slice none 0 0] 46)).alloc (.cells #[.slice none 0 0] 24)).alloc (.cells #[.int .i64 s, .int .i64 p] 28) = W3 at *
  have hxs : (upTo (s * p)).length ≤ 256 := by rw [upTo_len]; exact hsp
  have hS0 : AState W3.heap.size w.heap.size (w.heap.size + 1 + 1) (w.heap.size + 1 + 1 + 1) (A + 1) A (w.heap.size + 1) W3 #[.int .u64 (wordM F 0 : Nat), .int .u64 (wordM F 1 : Nat), .int .u64 (wordM F 2 : Nat), .int .u64 (wordM F 3 : Nat), .int .i64 r, .int .i64 q, .int .i64 0] (.slice none 0 0) (.slice none 0 0) [] [] :=
    ⟨K9, M8, World.ownsRow_nil _ _ _ _, World.ownsRow_nil _ _ _ _, R4', R5', C3, Nat.le_refl _, by omega⟩
  have HBD2 := Lib.hid hB2
  clear R4 R5 M8 K9 R4' R5' C3 bN hB1 hC1 hC2 hD2 hB2
  refine wpIn_rangeFunc_ownG rfl (by omega) (gf := 88) (lb := #[.pointer (some ⟨A + 1 + 1, 0, none⟩)]) rfl trivial (enters_of Try.func88 (by kernel_rfl) rfl)
    hstp kpS_t (kpS_b (Nat.le_refl _)) (Below.refl _ _) (fun _ => rfl)
    (fun (pre : List Int) W => (∃ rkv msv, AState W3.heap.size w.heap.size (w.heap.size + 1 + 1) (w.heap.size + 1 + 1 + 1) (A + 1) A (w.heap.size + 1) W #[.int .u64 (wordM F 0 : Nat), .int .u64 (wordM F 1 : Nat), .int .u64 (wordM F 2 : Nat), .int .u64 (wordM F 3 : Nat), .int .i64 r, .int .i64 q, .int .i64 0] rkv msv (foldA F q pre).2 (foldA F q pre).1 ∧ (foldA F q pre).1.length < r ∧ (foldA F q pre).2.length < q) ∧ Below w.heap.size w W)
    (fun c pre W => (c = .ret ∧ (foldA F q pre).1.length = r ∧ ∃ v, RState W3.heap.size (w.heap.size + 1 + 1) (w.heap.size + 1 + 1 + 1) W v (foldA F q pre).1 0) ∧ Below w.heap.size w W)
    (OwnFrom.and (Own.from (fun st X Y row hs hg hr => by obtain ⟨rkv, msv, h1, h2⟩ := hs; exact ⟨rkv, msv, h1.fr (fr_of_own hg hr) (fun _ h => h), h2⟩) _) (ownFrom_below (Nat.le_refl _) (by omega)))
    (fun c => OwnFrom.and (Own.from (fun st X Y row hs hg hr => by obtain ⟨h1, h2, v, h3⟩ := hs; exact ⟨h1, h2, v, h3.fr (fr_of_own hg hr) (fun _ h => h)⟩) _) (ownFrom_below (Nat.le_refl _) (by omega)))
    ⟨⟨_, _, hS0, by simp only [foldA, List.foldl_nil, List.length_nil]; omega, by simp only [foldA, List.foldl_nil, List.length_nil]; omega⟩, hB0⟩
    ?a1 ?assign ?body ?done ?stop
  case assign =>
    intro l x W K hK
    gi_wp2
    exact hK
  case body =>
    rintro l pre x W ⟨⟨rkv, msv, hS, hlr, hlq⟩, hB⟩ hlt
    have hlt' : pre.length < 256 := by omega
    have hd1 : 1 ≤ 8 := by omega
    have hfa : Fence.wide.fn 56 := trivial
    have hfb : (Fence.wide.inRound l).fn 56 := trivial
    have hfc : Fence.wide.fn 29 := trivial
    have hfd : (Fence.wide.inRound l).fn 29 := trivial
    have hsn := foldA_snoc F q pre x
    have h56 := fun W => (callsIn_wide (n := 7)).2 (has_any F x W)
    simp only [valM, Ytcefadbnmpjeiaa.cellsM] at h56
    have hstep : stepA F q (foldA F q pre) x = if hasM F x then (if (foldA F q pre).2.length + 1 < q then ((foldA F q pre).1, (foldA F q pre).2 ++ [x]) else ((foldA F q pre).1 ++ [(ofM ((foldA F q pre).2 ++ [x])).1], [])) else foldA F q pre := rfl
    rw [hstep] at hsn
    generalize foldA F q pre = st at *
    obtain ⟨ms, rk⟩ := st
    simp only at hS hlr hlq hsn
    have ew := fun i => hS.bw.cell i
    have H56 := Lib.hid h56
    have HS := Lib.hid hS
    clear h56 hstep hS
    have hlN : W3.heap.size ≤ W.heap.size := HS.out.size
    by_cases hhas : hasM F x = true
    · rw [hhas] at H56 hsn
      simp only [if_true] at hsn
      by_cases hfull : rk.length + 1 < q
      · rw [if_pos hfull] at hsn
        have bq : decide ((rk.length : Int) + 1 < (q : Int)) = true := decide_eq_true (by omega)
        gi_wp2_with (first
          | (gi_at_call 56; refine (CallsIn.inRound l (H56.out _)).mono ?_; rintro e w4 ⟨rfl, hf4⟩; have hS4 := HS.out.fr0 hf4; have k4 := hS4.bk.cell 0; have hz4 := hS4.size)
          | (gi_at_builtin; refine wpListIn_append_own _ rfl _ _ 24 rfl W3.heap.size 3 i0 (.int .i64 0) 1 8 Try.underlying24 hi hz0 hz1 hz2 rfl (by decide) _ _ _ rfl (hS4.rowk.alloc _) ⟨w4.heap.size, 0, none⟩ 1 1 [.int .i64 x] rfl rfl (cell_one_new _ _ _) (by simp [Value.oneCell']) (by unfold maxLen; omega) (by omega) (by simp; omega) ?_; intro v' w5 hown' hgrow _; obtain ⟨g', cap', rfl⟩ := ownsRow_succ hown'; obtain ⟨hS5, hk5, hf5, hkp5, hb5⟩ := hS4.rank hown' hgrow; clear k4; have b5 := hb5.cell 0; have b5' := hb5.frozen 0; have k5 := hS5.bk.cell 0; have c5 := fun i => hS5.bw.cell i))
        exact ⟨((keeps_of_fr hf4 (fun _ h => h.elim)).trans hk5).from _, kpS_t (KpS.fr hf4 (fun _ _ h => h.elim)) hkp5, ⟨_, msv, by rw [hsn]; exact hS5, by rw [hsn]; exact hlr, by rw [hsn]; simpa using hfull⟩, hB.trans ((hf4.below hB.size (fun _ h => h.elim)).trans (hf5.below (Nat.le_trans hB.size hf4.size) (fun _ h => h)))⟩
      · rw [if_neg hfull] at hsn
        have bq : decide ((rk.length : Int) + 1 < (q : Int)) = false := decide_eq_false (by omega)
        have hofc := fun W v (h : IntsV W v (rk ++ [x])) => (callsIn_wide (n := 7)).2 (of_any W v (rk ++ [x]) h (by simp only [List.length_append, List.length_cons, List.length_nil]; unfold maxLen; omega))
        generalize (ofM (rk ++ [x])).1 = Mk at *
        generalize (ofM (rk ++ [x])).2 = Me at *
        simp only [valM, Ytcefadbnmpjeiaa.cellsM] at hofc
        have HOF := Lib.hid hofc
        clear hofc
        by_cases hend : ms.length + 1 = r
        · have br : ((ms.length : Int) + 1 == (r : Int)) = true := by simp; omega
          have HEND := Lib.hid hend
          clear hend
          gi_wp2_with (first
            | (gi_at_call 56; refine (CallsIn.inRound l (H56.out _)).mono ?_; rintro e w4 ⟨rfl, hf4⟩; have hS4 := HS.out.fr0 hf4; have k4 := hS4.bk.cell 0; have hz4 := hS4.size)
            | (gi_at_builtin; refine wpListIn_append_own _ rfl _ _ 24 rfl W3.heap.size 3 i0 (.int .i64 0) 1 8 Try.underlying24 hi hz0 hz1 hz2 rfl (by decide) _ _ _ rfl (hS4.rowk.alloc _) ⟨w4.heap.size, 0, none⟩ 1 1 [.int .i64 x] rfl rfl (cell_one_new _ _ _) (by simp [Value.oneCell']) (by unfold maxLen; omega) (by omega) (by simp; omega) ?_; intro v' w5 hown' hgrow _; obtain ⟨g', cap', rfl⟩ := ownsRow_succ hown'; obtain ⟨hS5, hk5, hf5, hkp5, hb5⟩ := hS4.rank hown' hgrow; clear k4; have b5 := hb5.cell 0; have b5' := hb5.frozen 0; have k5 := hS5.bk.cell 0; have c5 := fun i => hS5.bw.cell i)
            | (gi_at_call 29; refine (CallsIn.inRound l (HOF.out _ _ (IntsV.of_row hS5.rowk))).mono ?_; rintro e w6 ⟨rfl, hf6⟩; clear b5 b5' k5 c5; have hS6 := hS5.fr0 hf6; have m6 := hS6.bm.cell 0; have hz6 := hS6.size; have hml6 := hS6.bm.lt)
            | (gi_at_builtin; refine wpListIn_append_own _ rfl _ _ 46 rfl W3.heap.size 33 j0 (.agg #[.int .u64 0, .int .u64 0, .int .u64 0, .int .u64 0]) 4 32 Try.underlying46 hj hy0 hy1 hy2 rfl (by decide) _ _ _ rfl ((hS6.rowm.alloc _).alloc _) ⟨w6.heap.size + 1, 0, none⟩ 1 1 [.int .u64 (wordM Mk 0 : Nat), .int .u64 (wordM Mk 1 : Nat), .int .u64 (wordM Mk 2 : Nat), .int .u64 (wordM Mk 3 : Nat)] rfl rfl (news_two4 w6 33 33 _ _) (by simp [Value.oneCell']) (by unfold maxLen; omega) (by omega) (by simp; omega) ?_; intro v'' w7 hown'' hgrow' _; obtain ⟨g'', cap'', rfl⟩ := ownsRow_succ hown''; obtain ⟨hS7, hk7, hf7, hkp7, hb7, hb7'⟩ := hS6.mask (M := Mk) (by rw [flatM_snoc]; exact hown'') hgrow'; clear m6; have m7 := hb7.cell 0; have m7' := hb7.frozen 0; have n7 := hb7'.cell 0; have n7' := hb7'.frozen 0; have o7 := hS7.bm.cell 0; have c7 := fun i => hS7.bw.cell i; have p7 := hS7.r4.cell 0; have p7' := hS7.r4.frozen 0; have q7 := hS7.r5.cell 0; have q7' := hS7.r5.frozen 0))
          obtain ⟨hR8, hk8, hf8, _⟩ := hS7.answer _ (ms ++ [Mk]) hS7.rowm 0
          have hkall := ((keeps_of_fr hf4 (fun _ h => h.elim)).trans hk5).trans ((keeps_of_fr hf6 (fun _ h => h.elim)).trans hk7)
          have hball := ((hf4.below hB.size (fun _ h => h.elim)).trans (hf5.below (Nat.le_trans hB.size hf4.size) (fun _ h => h))).trans ((hf6.below (Nat.le_trans hB.size (Nat.le_trans hf4.size hf5.size)) (fun _ h => h.elim)).trans (hf7.below (Nat.le_trans hB.size (Nat.le_trans hf4.size (Nat.le_trans hf5.size hf6.size))) (fun _ h => h)))
          exact ⟨(hkall.trans hk8).from _, ⟨rfl, by rw [hsn]; simp only [List.length_append, List.length_cons, List.length_nil]; exact HEND.out, _, by rw [hsn]; exact hR8⟩, hB.trans (hball.trans (hf8.below (Nat.le_trans hB.size hball.size) (fun _ h => h)))⟩
        · have br : ((ms.length : Int) + 1 == (r : Int)) = false := by simp; omega
          gi_wp2_with (first
            | (gi_at_call 56; refine (CallsIn.inRound l (H56.out _)).mono ?_; rintro e w4 ⟨rfl, hf4⟩; have hS4 := HS.out.fr0 hf4; have k4 := hS4.bk.cell 0; have hz4 := hS4.size)
            | (gi_at_builtin; refine wpListIn_append_own _ rfl _ _ 24 rfl W3.heap.size 3 i0 (.int .i64 0) 1 8 Try.underlying24 hi hz0 hz1 hz2 rfl (by decide) _ _ _ rfl (hS4.rowk.alloc _) ⟨w4.heap.size, 0, none⟩ 1 1 [.int .i64 x] rfl rfl (cell_one_new _ _ _) (by simp [Value.oneCell']) (by unfold maxLen; omega) (by omega) (by simp; omega) ?_; intro v' w5 hown' hgrow _; obtain ⟨g', cap', rfl⟩ := ownsRow_succ hown'; obtain ⟨hS5, hk5, hf5, hkp5, hb5⟩ := hS4.rank hown' hgrow; clear k4; have b5 := hb5.cell 0; have b5' := hb5.frozen 0; have k5 := hS5.bk.cell 0; have c5 := fun i => hS5.bw.cell i)
            | (gi_at_call 29; refine (CallsIn.inRound l (HOF.out _ _ (IntsV.of_row hS5.rowk))).mono ?_; rintro e w6 ⟨rfl, hf6⟩; clear b5 b5' k5 c5; have hS6 := hS5.fr0 hf6; have m6 := hS6.bm.cell 0; have hz6 := hS6.size; have hml6 := hS6.bm.lt)
            | (gi_at_builtin; refine wpListIn_append_own _ rfl _ _ 46 rfl W3.heap.size 33 j0 (.agg #[.int .u64 0, .int .u64 0, .int .u64 0, .int .u64 0]) 4 32 Try.underlying46 hj hy0 hy1 hy2 rfl (by decide) _ _ _ rfl ((hS6.rowm.alloc _).alloc _) ⟨w6.heap.size + 1, 0, none⟩ 1 1 [.int .u64 (wordM Mk 0 : Nat), .int .u64 (wordM Mk 1 : Nat), .int .u64 (wordM Mk 2 : Nat), .int .u64 (wordM Mk 3 : Nat)] rfl rfl (news_two4 w6 33 33 _ _) (by simp [Value.oneCell']) (by unfold maxLen; omega) (by omega) (by simp; omega) ?_; intro v'' w7 hown'' hgrow' _; obtain ⟨g'', cap'', rfl⟩ := ownsRow_succ hown''; obtain ⟨hS7, hk7, hf7, hkp7, hb7, hb7'⟩ := hS6.mask (M := Mk) (by rw [flatM_snoc]; exact hown'') hgrow'; clear m6; have m7 := hb7.cell 0; have m7' := hb7.frozen 0; have n7 := hb7'.cell 0; have n7' := hb7'.frozen 0; have o7 := hS7.bm.cell 0; have c7 := fun i => hS7.bw.cell i; have p7 := hS7.r4.cell 0; have p7' := hS7.r4.frozen 0; have q7 := hS7.r5.cell 0; have q7' := hS7.r5.frozen 0))
          have hkall := ((keeps_of_fr hf4 (fun _ h => h.elim)).trans hk5).trans ((keeps_of_fr hf6 (fun _ h => h.elim)).trans hk7)
          have hball := ((hf4.below hB.size (fun _ h => h.elim)).trans (hf5.below (Nat.le_trans hB.size hf4.size) (fun _ h => h))).trans ((hf6.below (Nat.le_trans hB.size (Nat.le_trans hf4.size hf5.size)) (fun _ h => h.elim)).trans (hf7.below (Nat.le_trans hB.size (Nat.le_trans hf4.size (Nat.le_trans hf5.size hf6.size))) (fun _ h => h)))
          exact ⟨hkall.from _, kpS_t (kpS_t (KpS.fr hf4 (fun _ _ h => h.elim)) hkp5) (kpS_t (KpS.fr hf6 (fun _ _ h => h.elim)) hkp7), ⟨_, _, by rw [hsn]; exact hS7, by rw [hsn]; simp only [List.length_append, List.length_cons, List.length_nil]; omega, by rw [hsn]; simp only [List.length_nil]; omega⟩, hB.trans hball⟩
    · have hhas : hasM F x = false := by simpa using hhas
      rw [hhas] at H56 hsn
      simp only [Bool.false_eq_true, if_false] at hsn
      gi_wp2_with (gi_at_call 56; refine (CallsIn.inRound l (H56.out _)).mono ?_; rintro e w4 ⟨rfl, hf4⟩)
      exact ⟨(keeps_of_fr hf4 (fun _ h => h.elim)).from _, KpS.fr hf4 (fun _ _ h => h.elim), ⟨rkv, msv, by rw [hsn]; exact HS.out.fr0 hf4, by rw [hsn]; exact hlr, by rw [hsn]; exact hlq⟩, hB.trans (hf4.below hB.size (fun _ h => h.elim))⟩
  case done =>
    rintro D ys W hD rfl ⟨⟨rkv, msv, hS, hlr, hlq⟩, hB⟩ hK
    have hr0 : res = ([], 12) := by rw [hres.out, asg, if_neg (by omega)]
    obtain ⟨hR8, hk8, hf8, hb8⟩ := hS.answer (.slice none 0 0) [] (World.ownsRow_nil _ _ _ _) 12
    have p7 := hS.r4.cell 0
    have p7' := hS.r4.frozen 0
    have q7 := hS.r5.cell 0
    have q7' := hS.r5.frozen 0
    gi_wp2
    have hK' := hk8.same D _ hK rfl
    have hfD := fr_of_own (grownBy_putObj' _ D (.deferred none)) (fun r e => by cases e; exact ⟨_, hK', rfl⟩)
    have hR9 := hR8.fr hfD (fun _ h => h)
    have x4 := hR9.r4.cell 0
    have x5 := hR9.r5.cell 0
    have hfin := Fr.of_below (S := fun _ => False) ((hB.trans (hf8.below hB.size (fun _ h => h))).trans (belowK_b (w := w) (Nat.le_refl _) _ D _ (.deferred none) (by omega) hK' rfl rfl))
    refine ⟨by simp, .inl ⟨_, _, rfl, run_takeDeferred hK', ?_⟩⟩
    refine ⟨.tuple #[.slice none 0 0, .int .i64 12], ?_, .slice none 0 0, ?_, ?_, hfin⟩
    · clear hR8 hR9 hfD hfin hS hb8 p7 p7' q7 q7' hK' hf8 hk8
      generalize World.putObj _ D (Obj.deferred none) = Wf at x4 x5 ⊢
      rw [results_cell_cell rfl]
      go_simp
    · rw [hr0]
    · rw [hr0]; exact World.ownsRow_nil _ _ _ _
  case stop =>
    rintro D c pre W hD hpre ⟨⟨rfl, hlen, v, hR⟩, hB⟩ hK
    have hpf := foldA_prefix F q hpre
    have hr0 : res = ((foldA F q pre).1, 0) := by
      rw [hres.out, asg, if_pos (by rw [← hlen]; exact hpf.length_le), ← hlen, List.prefix_iff_eq_take.1 hpf, List.length_take, Nat.min_eq_left hpf.length_le]
    gi_wp2
    have hfD := fr_of_own (grownBy_putObj' W D (.deferred none)) (fun r e => by cases e; exact ⟨_, hK, rfl⟩)
    have hR9 := hR.fr hfD (fun _ h => h)
    have x4 := hR9.r4.cell 0
    have x5 := hR9.r5.cell 0
    have hfin := Fr.of_below (S := fun _ => False) (hB.trans (belowK_b (w := w) (Nat.le_refl _) _ D _ (.deferred none) (by omega) hK rfl rfl))
    refine ⟨by simp, .inl ⟨_, _, rfl, run_takeDeferred hK, ?_⟩⟩
    refine ⟨.tuple #[v, .int .i64 0], ?_, v, ?_, ?_, hfin⟩
    · clear hR hR9 hfD hfin
      generalize World.putObj _ D (Obj.deferred none) = Wf at x4 x5 ⊢
      rw [results_cell_cell rfl]
      go_simp
    · rw [hr0]
    · rw [hr0]; exact ownsRow_base_a' hR9.row (by omega)


set_option maxRecDepth 20000 in
set_option maxHeartbeats 4000000 in
theorem assign24_cyclic (s p : Nat) (hsb : 1 ≤ s ∧ s ≤ 8) (hpb : 1 ≤ p ∧ p ≤ 64) (hsp : s * p ≤ 256) (F r q : Nat) (hr : 1 ≤ r ∧ r ≤ 32) (hq : 1 ≤ q ∧ q ≤ 256) (w : World) (res : List Nat × Int) (hres : Hid (res = asg F r q (cyc s p p))) :
    Calls Try.prog 24 #[.agg #[.int .i64 s, .int .i64 p], .agg #[.int .u64 (wordM F 0 : Nat), .int .u64 (wordM F 1 : Nat), .int .u64 (wordM F 2 : Nat), .int .u64 (wordM F 3 : Nat), .int .i64 r, .int .i64 q, .int .i64 1]] w fun e w' => ∃ v, e = .returned (.tuple #[v, .int .i64 res.2]) ∧ w'.ownsRow w.heap.size 33 4 v res.1.length (flatM res.1) ∧ Fr (fun _ => False) w w' := by
  obtain ⟨i0, hi, hz0, hz1, hz2⟩ := info_parts info3
  obtain ⟨j0, hj, hy0, hy1, hy2⟩ := info_parts info33
  have hmay := nat_may hsb hpb hsp
  have h49 := fun W => (callsIn_wide (n := 9)).2 (of49_any 1 W)
  rw [show ofV 1 = (.func (.func 78) #[] #[], true) from rfl] at h49
  have h50 := fun W => (callsIn_wide (n := 9)).2 (may50_any ⟨s, p⟩ W)
  rw [decide_eq_true hmay] at h50
  have hmk := fun W => (callsIn_wide (n := 9)).2 (cyclic78_any ⟨s, p⟩ W)
  have h54 := fun W => (callsIn_wide (n := 9)).2 (in54_any r 1 32 W)
  rw [decide_eq_true (show (1 : Int) ≤ r ∧ (r : Int) ≤ 32 by omega)] at h54
  have h54' := fun W => (callsIn_wide (n := 9)).2 (in54_any q 1 256 W)
  rw [decide_eq_true (show (1 : Int) ≤ q ∧ (q : Int) ≤ 256 by omega)] at h54'
  simp only [LayD.val] at h50 hmk
  have HB2 := Lib.hid ((((Blk.new w 28 #[.int .i64 s, .int .i64 p]).alloc (.cells #[.int .u64 (wordM F 0 : Nat), .int .u64 (wordM F 1 : Nat), .int .u64 (wordM F 2 : Nat), .int .u64 (wordM F 3 : Nat), .int .i64 r, .int .i64 q, .int .i64 1] 50)).alloc (.cells #[.slice none 0 0] 46)).alloc (.cells #[.int .i64 0] 25))
  have B3 := ((Blk.new (w.alloc (.cells #[.int .i64 s, .int .i64 p] 28)) 50 #[.int .u64 (wordM F 0 : Nat), .int .u64 (wordM F 1 : Nat), .int .u64 (wordM F 2 : Nat), .int .u64 (wordM F 3 : Nat), .int .i64 r, .int .i64 q, .int .i64 1]).alloc (.cells #[.slice none 0 0] 46)).alloc (.cells #[.int .i64 0] 25)
  have B4 := (Blk.new ((w.alloc (.cells #[.int .i64 s, .int .i64 p] 28)).alloc (.cells #[.int .u64 (wordM F 0 : Nat), .int .u64 (wordM F 1 : Nat), .int .u64 (wordM F 2 : Nat), .int .u64 (wordM F 3 : Nat), .int .i64 r, .int .i64 q, .int .i64 1] 50)) 46 #[.slice none 0 0]).alloc (.cells #[.int .i64 0] 25)
  have B5 := Blk.new (((w.alloc (.cells #[.int .i64 s, .int .i64 p] 28)).alloc (.cells #[.int .u64 (wordM F 0 : Nat), .int .u64 (wordM F 1 : Nat), .int .u64 (wordM F 2 : Nat), .int .u64 (wordM F 3 : Nat), .int .i64 r, .int .i64 q, .int .i64 1] 50)).alloc (.cells #[.slice none 0 0] 46)) 25 #[.int .i64 0]
  have F0 := ((((Fr.refl (fun _ => False) w).alloc (.cells #[.int .i64 s, .int .i64 p] 28)).alloc (.cells #[.int .u64 (wordM F 0 : Nat), .int .u64 (wordM F 1 : Nat), .int .u64 (wordM F 2 : Nat), .int .u64 (wordM F 3 : Nat), .int .i64 r, .int .i64 q, .int .i64 1] 50)).alloc (.cells #[.slice none 0 0] 46)).alloc (.cells #[.int .i64 0] 25)
  simp only [World.size_alloc] at B3 B4 B5
  have HB3 := Lib.hid B3
  have HB4 := Lib.hid B4
  have HB5 := Lib.hid B5
  have HF0 := Lib.hid F0
  have H49 := Lib.hid h49
  have H50 := Lib.hid h50
  have HMK := Lib.hid hmk
  have H54 := Lib.hid h54
  have H54' := Lib.hid h54'
  have HMAY := Lib.hid hmay
  clear h49 h50 hmk hmay h54 h54' B3 B4 B5 F0
  have hf49 : Fence.wide.fn 49 := trivial
  have hf50 : Fence.wide.fn 50 := trivial
  have hf54 : Fence.wide.fn 54 := trivial
  have hfmk : Fence.wide.fn 78 := trivial
  refine (callsIn_wide (n := 10)).1 ?_
  refine callsIn_of_wp_marks Try.func24 rfl trivial ?_ rfl
  simp only [Try.ntmps24, List.size_toArray, List.length_cons, List.length_nil, Nat.reduceAdd, Nat.reduceSub, Array.replicate_succ, Array.replicate_zero, List.push_toArray, List.append_toArray, List.nil_append, List.cons_append]
  have e0 := fun i => HB3.out.cell i
  gi_wp2_with (gi_at_call 49; refine (H49.out _).mono ?_; rintro e w1 ⟨rfl, hf1⟩; clear e0; have hB1 := HB2.out.fr hf1 (fun h => h); have hC1 := HB3.out.fr hf1 (fun h => h); have hz1' := hC1.lt; have hy1' := hB1.lt; have e1 := fun i => (hB1.alloc (.cells #[.func (.func 78) #[] #[]] 87)).cell i)
  gi_wp2_with (gi_at_call 50; refine (H50.out _).mono ?_; rintro e w2 ⟨rfl, hf2⟩; clear e1; have hD2 := (Blk.new w1 87 #[.func (.func 78) #[] #[]]).fr hf2 (fun h => h); have hB2 := (hB1.alloc (.cells #[.func (.func 78) #[] #[]] 87)).fr hf2 (fun h => h); have hC2 := (hC1.alloc (.cells #[.func (.func 78) #[] #[]] 87)).fr hf2 (fun h => h); have hz2' := hD2.lt; have c2 := fun i => hC2.cell i)
  gi_wp2_with (first | (gi_at_call 54; refine (H54.out _).mono ?_; clear H54; rintro e w3 ⟨rfl, rfl⟩))
  gi_wp2_with (first | (gi_at_call 54; refine (H54'.out _).mono ?_; clear H54'; rintro e w3 ⟨rfl, rfl⟩; have d2 := fun i => ((hD2.alloc (.cells #[.slice none 0 0] 46)).alloc (.cells #[.slice none 0 0] 24)).cell i; have e2 := fun i => ((hB2.alloc (.cells #[.slice none 0 0] 46)).alloc (.cells #[.slice none 0 0] 24)).cell i))
  gi_wp2_with (gi_at_call 78; refine (HMK.out _).mono ?_; rintro e w3 ⟨rfl, rfl⟩)
  clear d2 e2 c2
  have hF2 : Fr (fun _ => False) w w2 := (((HF0.out).then hf1).alloc _).then hf2
  have hsz2 := hF2.size
  have hsz1 : w.heap.size + 4 ≤ w1.heap.size := by have := hf1.size; simpa using this
  have R4 := (((HB4.out.fr hf1 (fun h => h)).alloc (.cells #[.func (.func 78) #[] #[]] 87)).fr hf2 (fun h => h))
  have R5 := (((HB5.out.fr hf1 (fun h => h)).alloc (.cells #[.func (.func 78) #[] #[]] 87)).fr hf2 (fun h => h))
  have M8 := ((Blk.new w2 46 #[.slice none 0 0]).alloc (.cells #[.slice none 0 0] 24)).alloc (.cells #[.int .i64 s, .int .i64 p] 28)
  have K9 := (Blk.new (w2.alloc (.cells #[.slice none 0 0] 46)) 24 #[.slice none 0 0]).alloc (.cells #[.int .i64 s, .int .i64 p] 28)
  have bN := Blk.new ((w2.alloc (.cells #[.slice none 0 0] 46)).alloc (.cells #[.slice none 0 0] 24)) 28 #[.int .i64 s, .int .i64 p]
  have R4' := ((R4.alloc (.cells #[.slice none 0 0] 46)).alloc (.cells #[.slice none 0 0] 24)).alloc (.cells #[.int .i64 s, .int .i64 p] 28)
  have R5' := ((R5.alloc (.cells #[.slice none 0 0] 46)).alloc (.cells #[.slice none 0 0] 24)).alloc (.cells #[.int .i64 s, .int .i64 p] 28)
  have C3 := ((hC2.alloc (.cells #[.slice none 0 0] 46)).alloc (.cells #[.slice none 0 0] 24)).alloc (.cells #[.int .i64 s, .int .i64 p] 28)
  have hB0 : Below w.heap.size w (((w2.alloc (.cells #[.slice none 0 0] 46)).alloc (.cells #[.slice none 0 0] 24)).alloc (.cells #[.int .i64 s, .int .i64 p] 28)) := (((hF2.alloc _).alloc _).alloc _).below (Nat.le_refl _) (fun _ h => h.elim)
  have hWs : (((w2.alloc (.cells #[.slice none 0 0] 46)).alloc (.cells #[.slice none 0 0] 24)).alloc (.cells #[.int .i64 s, .int .i64 p] 28)).heap.size = w2.heap.size + 3 := by simp
  simp only [World.size_alloc] at K9 bN
  generalize hA : w2.heap.size = A at *
  have hstp := cyclic_stops 9 (by omega) (A + 1 + 1) (fun i => i = A + 1 ∨ i = A ∨ i = w.heap.size + 1 + 1 ∨ i = w.heap.size + 1 + 1 + 1) s p hsb hpb (by omega) _ bN
  have hps : p * s ≤ 256 := by rw [Nat.mul_comm]; exact hsp
  generalize hW3 : ((w2.alloc (.cells #[.slice none 0 0] 46)).alloc (.cells #[.slice none 0 0] 24)).alloc (.cells #[.int .i64 s, .int .i64 p] 28) = W3 at *
  have hxs : (cyc s p p).length ≤ 256 := by rw [cyc_len, Nat.mul_comm]; exact hsp
  have hS0 : AState W3.heap.size w.heap.size (w.heap.size + 1 + 1) (w.heap.size + 1 + 1 + 1) (A + 1) A (w.heap.size + 1) W3 #[.int .u64 (wordM F 0 : Nat), .int .u64 (wordM F 1 : Nat), .int .u64 (wordM F 2 : Nat), .int .u64 (wordM F 3 : Nat), .int .i64 r, .int .i64 q, .int .i64 1] (.slice none 0 0) (.slice none 0 0) [] [] :=
    ⟨K9, M8, World.ownsRow_nil _ _ _ _, World.ownsRow_nil _ _ _ _, R4', R5', C3, Nat.le_refl _, by omega⟩
  have HBD2 := Lib.hid hB2
  clear R4 R5 M8 K9 R4' R5' C3 bN hB1 hC1 hC2 hD2 hB2
  refine wpIn_rangeFunc_ownG rfl (by omega) (gf := 89) (lb := #[.pointer (some ⟨A + 1 + 1, 0, none⟩)]) rfl trivial (enters_of Try.func89 (by kernel_rfl) rfl)
    hstp kpS_t (kpS_b (Nat.le_refl _)) (Below.refl _ _) (fun _ => rfl)
    (fun (pre : List Int) W => (∃ rkv msv, AState W3.heap.size w.heap.size (w.heap.size + 1 + 1) (w.heap.size + 1 + 1 + 1) (A + 1) A (w.heap.size + 1) W #[.int .u64 (wordM F 0 : Nat), .int .u64 (wordM F 1 : Nat), .int .u64 (wordM F 2 : Nat), .int .u64 (wordM F 3 : Nat), .int .i64 r, .int .i64 q, .int .i64 1] rkv msv (foldA F q pre).2 (foldA F q pre).1 ∧ (foldA F q pre).1.length < r ∧ (foldA F q pre).2.length < q) ∧ Below w.heap.size w W)
    (fun c pre W => (c = .ret ∧ (foldA F q pre).1.length = r ∧ ∃ v, RState W3.heap.size (w.heap.size + 1 + 1) (w.heap.size + 1 + 1 + 1) W v (foldA F q pre).1 0) ∧ Below w.heap.size w W)
    (OwnFrom.and (Own.from (fun st X Y row hs hg hr => by obtain ⟨rkv, msv, h1, h2⟩ := hs; exact ⟨rkv, msv, h1.fr (fr_of_own hg hr) (fun _ h => h), h2⟩) _) (ownFrom_below (Nat.le_refl _) (by omega)))
    (fun c => OwnFrom.and (Own.from (fun st X Y row hs hg hr => by obtain ⟨h1, h2, v, h3⟩ := hs; exact ⟨h1, h2, v, h3.fr (fr_of_own hg hr) (fun _ h => h)⟩) _) (ownFrom_below (Nat.le_refl _) (by omega)))
    ⟨⟨_, _, hS0, by simp only [foldA, List.foldl_nil, List.length_nil]; omega, by simp only [foldA, List.foldl_nil, List.length_nil]; omega⟩, hB0⟩
    ?a1 ?assign ?body ?done ?stop
  case assign =>
    intro l x W K hK
    gi_wp2
    exact hK
  case body =>
    rintro l pre x W ⟨⟨rkv, msv, hS, hlr, hlq⟩, hB⟩ hlt
    have hlt' : pre.length < 256 := by omega
    have hd1 : 1 ≤ 8 := by omega
    have hfa : Fence.wide.fn 56 := trivial
    have hfb : (Fence.wide.inRound l).fn 56 := trivial
    have hfc : Fence.wide.fn 29 := trivial
    have hfd : (Fence.wide.inRound l).fn 29 := trivial
    have hsn := foldA_snoc F q pre x
    have h56 := fun W => (callsIn_wide (n := 7)).2 (has_any F x W)
    simp only [valM, Ytcefadbnmpjeiaa.cellsM] at h56
    have hstep : stepA F q (foldA F q pre) x = if hasM F x then (if (foldA F q pre).2.length + 1 < q then ((foldA F q pre).1, (foldA F q pre).2 ++ [x]) else ((foldA F q pre).1 ++ [(ofM ((foldA F q pre).2 ++ [x])).1], [])) else foldA F q pre := rfl
    rw [hstep] at hsn
    generalize foldA F q pre = st at *
    obtain ⟨ms, rk⟩ := st
    simp only at hS hlr hlq hsn
    have ew := fun i => hS.bw.cell i
    have H56 := Lib.hid h56
    have HS := Lib.hid hS
    clear h56 hstep hS
    have hlN : W3.heap.size ≤ W.heap.size := HS.out.size
    by_cases hhas : hasM F x = true
    · rw [hhas] at H56 hsn
      simp only [if_true] at hsn
      by_cases hfull : rk.length + 1 < q
      · rw [if_pos hfull] at hsn
        have bq : decide ((rk.length : Int) + 1 < (q : Int)) = true := decide_eq_true (by omega)
        gi_wp2_with (first
          | (gi_at_call 56; refine (CallsIn.inRound l (H56.out _)).mono ?_; rintro e w4 ⟨rfl, hf4⟩; have hS4 := HS.out.fr0 hf4; have k4 := hS4.bk.cell 0; have hz4 := hS4.size)
          | (gi_at_builtin; refine wpListIn_append_own _ rfl _ _ 24 rfl W3.heap.size 3 i0 (.int .i64 0) 1 8 Try.underlying24 hi hz0 hz1 hz2 rfl (by decide) _ _ _ rfl (hS4.rowk.alloc _) ⟨w4.heap.size, 0, none⟩ 1 1 [.int .i64 x] rfl rfl (cell_one_new _ _ _) (by simp [Value.oneCell']) (by unfold maxLen; omega) (by omega) (by simp; omega) ?_; intro v' w5 hown' hgrow _; obtain ⟨g', cap', rfl⟩ := ownsRow_succ hown'; obtain ⟨hS5, hk5, hf5, hkp5, hb5⟩ := hS4.rank hown' hgrow; clear k4; have b5 := hb5.cell 0; have b5' := hb5.frozen 0; have k5 := hS5.bk.cell 0; have c5 := fun i => hS5.bw.cell i))
        exact ⟨((keeps_of_fr hf4 (fun _ h => h.elim)).trans hk5).from _, kpS_t (KpS.fr hf4 (fun _ _ h => h.elim)) hkp5, ⟨_, msv, by rw [hsn]; exact hS5, by rw [hsn]; exact hlr, by rw [hsn]; simpa using hfull⟩, hB.trans ((hf4.below hB.size (fun _ h => h.elim)).trans (hf5.below (Nat.le_trans hB.size hf4.size) (fun _ h => h)))⟩
      · rw [if_neg hfull] at hsn
        have bq : decide ((rk.length : Int) + 1 < (q : Int)) = false := decide_eq_false (by omega)
        have hofc := fun W v (h : IntsV W v (rk ++ [x])) => (callsIn_wide (n := 7)).2 (of_any W v (rk ++ [x]) h (by simp only [List.length_append, List.length_cons, List.length_nil]; unfold maxLen; omega))
        generalize (ofM (rk ++ [x])).1 = Mk at *
        generalize (ofM (rk ++ [x])).2 = Me at *
        simp only [valM, Ytcefadbnmpjeiaa.cellsM] at hofc
        have HOF := Lib.hid hofc
        clear hofc
        by_cases hend : ms.length + 1 = r
        · have br : ((ms.length : Int) + 1 == (r : Int)) = true := by simp; omega
          have HEND := Lib.hid hend
          clear hend
          gi_wp2_with (first
            | (gi_at_call 56; refine (CallsIn.inRound l (H56.out _)).mono ?_; rintro e w4 ⟨rfl, hf4⟩; have hS4 := HS.out.fr0 hf4; have k4 := hS4.bk.cell 0; have hz4 := hS4.size)
            | (gi_at_builtin; refine wpListIn_append_own _ rfl _ _ 24 rfl W3.heap.size 3 i0 (.int .i64 0) 1 8 Try.underlying24 hi hz0 hz1 hz2 rfl (by decide) _ _ _ rfl (hS4.rowk.alloc _) ⟨w4.heap.size, 0, none⟩ 1 1 [.int .i64 x] rfl rfl (cell_one_new _ _ _) (by simp [Value.oneCell']) (by unfold maxLen; omega) (by omega) (by simp; omega) ?_; intro v' w5 hown' hgrow _; obtain ⟨g', cap', rfl⟩ := ownsRow_succ hown'; obtain ⟨hS5, hk5, hf5, hkp5, hb5⟩ := hS4.rank hown' hgrow; clear k4; have b5 := hb5.cell 0; have b5' := hb5.frozen 0; have k5 := hS5.bk.cell 0; have c5 := fun i => hS5.bw.cell i)
            | (gi_at_call 29; refine (CallsIn.inRound l (HOF.out _ _ (IntsV.of_row hS5.rowk))).mono ?_; rintro e w6 ⟨rfl, hf6⟩; clear b5 b5' k5 c5; have hS6 := hS5.fr0 hf6; have m6 := hS6.bm.cell 0; have hz6 := hS6.size; have hml6 := hS6.bm.lt)
            | (gi_at_builtin; refine wpListIn_append_own _ rfl _ _ 46 rfl W3.heap.size 33 j0 (.agg #[.int .u64 0, .int .u64 0, .int .u64 0, .int .u64 0]) 4 32 Try.underlying46 hj hy0 hy1 hy2 rfl (by decide) _ _ _ rfl ((hS6.rowm.alloc _).alloc _) ⟨w6.heap.size + 1, 0, none⟩ 1 1 [.int .u64 (wordM Mk 0 : Nat), .int .u64 (wordM Mk 1 : Nat), .int .u64 (wordM Mk 2 : Nat), .int .u64 (wordM Mk 3 : Nat)] rfl rfl (news_two4 w6 33 33 _ _) (by simp [Value.oneCell']) (by unfold maxLen; omega) (by omega) (by simp; omega) ?_; intro v'' w7 hown'' hgrow' _; obtain ⟨g'', cap'', rfl⟩ := ownsRow_succ hown''; obtain ⟨hS7, hk7, hf7, hkp7, hb7, hb7'⟩ := hS6.mask (M := Mk) (by rw [flatM_snoc]; exact hown'') hgrow'; clear m6; have m7 := hb7.cell 0; have m7' := hb7.frozen 0; have n7 := hb7'.cell 0; have n7' := hb7'.frozen 0; have o7 := hS7.bm.cell 0; have c7 := fun i => hS7.bw.cell i; have p7 := hS7.r4.cell 0; have p7' := hS7.r4.frozen 0; have q7 := hS7.r5.cell 0; have q7' := hS7.r5.frozen 0))
          obtain ⟨hR8, hk8, hf8, _⟩ := hS7.answer _ (ms ++ [Mk]) hS7.rowm 0
          have hkall := ((keeps_of_fr hf4 (fun _ h => h.elim)).trans hk5).trans ((keeps_of_fr hf6 (fun _ h => h.elim)).trans hk7)
          have hball := ((hf4.below hB.size (fun _ h => h.elim)).trans (hf5.below (Nat.le_trans hB.size hf4.size) (fun _ h => h))).trans ((hf6.below (Nat.le_trans hB.size (Nat.le_trans hf4.size hf5.size)) (fun _ h => h.elim)).trans (hf7.below (Nat.le_trans hB.size (Nat.le_trans hf4.size (Nat.le_trans hf5.size hf6.size))) (fun _ h => h)))
          exact ⟨(hkall.trans hk8).from _, ⟨rfl, by rw [hsn]; simp only [List.length_append, List.length_cons, List.length_nil]; exact HEND.out, _, by rw [hsn]; exact hR8⟩, hB.trans (hball.trans (hf8.below (Nat.le_trans hB.size hball.size) (fun _ h => h)))⟩
        · have br : ((ms.length : Int) + 1 == (r : Int)) = false := by simp; omega
          gi_wp2_with (first
            | (gi_at_call 56; refine (CallsIn.inRound l (H56.out _)).mono ?_; rintro e w4 ⟨rfl, hf4⟩; have hS4 := HS.out.fr0 hf4; have k4 := hS4.bk.cell 0; have hz4 := hS4.size)
            | (gi_at_builtin; refine wpListIn_append_own _ rfl _ _ 24 rfl W3.heap.size 3 i0 (.int .i64 0) 1 8 Try.underlying24 hi hz0 hz1 hz2 rfl (by decide) _ _ _ rfl (hS4.rowk.alloc _) ⟨w4.heap.size, 0, none⟩ 1 1 [.int .i64 x] rfl rfl (cell_one_new _ _ _) (by simp [Value.oneCell']) (by unfold maxLen; omega) (by omega) (by simp; omega) ?_; intro v' w5 hown' hgrow _; obtain ⟨g', cap', rfl⟩ := ownsRow_succ hown'; obtain ⟨hS5, hk5, hf5, hkp5, hb5⟩ := hS4.rank hown' hgrow; clear k4; have b5 := hb5.cell 0; have b5' := hb5.frozen 0; have k5 := hS5.bk.cell 0; have c5 := fun i => hS5.bw.cell i)
            | (gi_at_call 29; refine (CallsIn.inRound l (HOF.out _ _ (IntsV.of_row hS5.rowk))).mono ?_; rintro e w6 ⟨rfl, hf6⟩; clear b5 b5' k5 c5; have hS6 := hS5.fr0 hf6; have m6 := hS6.bm.cell 0; have hz6 := hS6.size; have hml6 := hS6.bm.lt)
            | (gi_at_builtin; refine wpListIn_append_own _ rfl _ _ 46 rfl W3.heap.size 33 j0 (.agg #[.int .u64 0, .int .u64 0, .int .u64 0, .int .u64 0]) 4 32 Try.underlying46 hj hy0 hy1 hy2 rfl (by decide) _ _ _ rfl ((hS6.rowm.alloc _).alloc _) ⟨w6.heap.size + 1, 0, none⟩ 1 1 [.int .u64 (wordM Mk 0 : Nat), .int .u64 (wordM Mk 1 : Nat), .int .u64 (wordM Mk 2 : Nat), .int .u64 (wordM Mk 3 : Nat)] rfl rfl (news_two4 w6 33 33 _ _) (by simp [Value.oneCell']) (by unfold maxLen; omega) (by omega) (by simp; omega) ?_; intro v'' w7 hown'' hgrow' _; obtain ⟨g'', cap'', rfl⟩ := ownsRow_succ hown''; obtain ⟨hS7, hk7, hf7, hkp7, hb7, hb7'⟩ := hS6.mask (M := Mk) (by rw [flatM_snoc]; exact hown'') hgrow'; clear m6; have m7 := hb7.cell 0; have m7' := hb7.frozen 0; have n7 := hb7'.cell 0; have n7' := hb7'.frozen 0; have o7 := hS7.bm.cell 0; have c7 := fun i => hS7.bw.cell i; have p7 := hS7.r4.cell 0; have p7' := hS7.r4.frozen 0; have q7 := hS7.r5.cell 0; have q7' := hS7.r5.frozen 0))
          have hkall := ((keeps_of_fr hf4 (fun _ h => h.elim)).trans hk5).trans ((keeps_of_fr hf6 (fun _ h => h.elim)).trans hk7)
          have hball := ((hf4.below hB.size (fun _ h => h.elim)).trans (hf5.below (Nat.le_trans hB.size hf4.size) (fun _ h => h))).trans ((hf6.below (Nat.le_trans hB.size (Nat.le_trans hf4.size hf5.size)) (fun _ h => h.elim)).trans (hf7.below (Nat.le_trans hB.size (Nat.le_trans hf4.size (Nat.le_trans hf5.size hf6.size))) (fun _ h => h)))
          exact ⟨hkall.from _, kpS_t (kpS_t (KpS.fr hf4 (fun _ _ h => h.elim)) hkp5) (kpS_t (KpS.fr hf6 (fun _ _ h => h.elim)) hkp7), ⟨_, _, by rw [hsn]; exact hS7, by rw [hsn]; simp only [List.length_append, List.length_cons, List.length_nil]; omega, by rw [hsn]; simp only [List.length_nil]; omega⟩, hB.trans hball⟩
    · have hhas : hasM F x = false := by simpa using hhas
      rw [hhas] at H56 hsn
      simp only [Bool.false_eq_true, if_false] at hsn
      gi_wp2_with (gi_at_call 56; refine (CallsIn.inRound l (H56.out _)).mono ?_; rintro e w4 ⟨rfl, hf4⟩)
      exact ⟨(keeps_of_fr hf4 (fun _ h => h.elim)).from _, KpS.fr hf4 (fun _ _ h => h.elim), ⟨rkv, msv, by rw [hsn]; exact HS.out.fr0 hf4, by rw [hsn]; exact hlr, by rw [hsn]; exact hlq⟩, hB.trans (hf4.below hB.size (fun _ h => h.elim))⟩
  case done =>
    rintro D ys W hD rfl ⟨⟨rkv, msv, hS, hlr, hlq⟩, hB⟩ hK
    have hr0 : res = ([], 12) := by rw [hres.out, asg, if_neg (by omega)]
    obtain ⟨hR8, hk8, hf8, hb8⟩ := hS.answer (.slice none 0 0) [] (World.ownsRow_nil _ _ _ _) 12
    have p7 := hS.r4.cell 0
    have p7' := hS.r4.frozen 0
    have q7 := hS.r5.cell 0
    have q7' := hS.r5.frozen 0
    gi_wp2
    have hK' := hk8.same D _ hK rfl
    have hfD := fr_of_own (grownBy_putObj' _ D (.deferred none)) (fun r e => by cases e; exact ⟨_, hK', rfl⟩)
    have hR9 := hR8.fr hfD (fun _ h => h)
    have x4 := hR9.r4.cell 0
    have x5 := hR9.r5.cell 0
    have hfin := Fr.of_below (S := fun _ => False) ((hB.trans (hf8.below hB.size (fun _ h => h))).trans (belowK_b (w := w) (Nat.le_refl _) _ D _ (.deferred none) (by omega) hK' rfl rfl))
    refine ⟨by simp, .inl ⟨_, _, rfl, run_takeDeferred hK', ?_⟩⟩
    refine ⟨.tuple #[.slice none 0 0, .int .i64 12], ?_, .slice none 0 0, ?_, ?_, hfin⟩
    · clear hR8 hR9 hfD hfin hS hb8 p7 p7' q7 q7' hK' hf8 hk8
      generalize World.putObj _ D (Obj.deferred none) = Wf at x4 x5 ⊢
      rw [results_cell_cell rfl]
      go_simp
    · rw [hr0]
    · rw [hr0]; exact World.ownsRow_nil _ _ _ _
  case stop =>
    rintro D c pre W hD hpre ⟨⟨rfl, hlen, v, hR⟩, hB⟩ hK
    have hpf := foldA_prefix F q hpre
    have hr0 : res = ((foldA F q pre).1, 0) := by
      rw [hres.out, asg, if_pos (by rw [← hlen]; exact hpf.length_le), ← hlen, List.prefix_iff_eq_take.1 hpf, List.length_take, Nat.min_eq_left hpf.length_le]
    gi_wp2
    have hfD := fr_of_own (grownBy_putObj' W D (.deferred none)) (fun r e => by cases e; exact ⟨_, hK, rfl⟩)
    have hR9 := hR.fr hfD (fun _ h => h)
    have x4 := hR9.r4.cell 0
    have x5 := hR9.r5.cell 0
    have hfin := Fr.of_below (S := fun _ => False) (hB.trans (belowK_b (w := w) (Nat.le_refl _) _ D _ (.deferred none) (by omega) hK rfl rfl))
    refine ⟨by simp, .inl ⟨_, _, rfl, run_takeDeferred hK, ?_⟩⟩
    refine ⟨.tuple #[v, .int .i64 0], ?_, v, ?_, ?_, hfin⟩
    · clear hR hR9 hfD hfin
      generalize World.putObj _ D (Obj.deferred none) = Wf at x4 x5 ⊢
      rw [results_cell_cell rfl]
      go_simp
    · rw [hr0]
    · rw [hr0]; exact ownsRow_base_a' hR9.row (by omega)

end Go.Proofs.Ytcefadbnmpjeiaa
