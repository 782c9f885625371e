/-
  The reference's queue: Set.
-/
import Derived.Test.YtdlpiaglgdafoaaTq
namespace Go.Proofs.Ytdlpiaglgdafoaa
open Go.RowKit Go.Maps

def InsT (x : KeyD) (R T : List KeyD) (b : Bool) (j : Nat) : Prop := if b = true then T ++ R.drop j = insK x R else T ++ insK x (R.drop j) = insK x R

theorem insK_cons (x y : KeyD) (r : List KeyD) : insK x (y :: r) = if ltK x y = true then x :: y :: r else y :: insK x r := rfl

theorem InsT.len {x : KeyD} {R T : List KeyD} {b : Bool} {j : Nat} (h : InsT x R T b j) (hj : j ≤ R.length) : T.length ≤ R.length + 1 ∧ (b = false → T.length ≤ R.length) := by
  unfold InsT at h
  cases b with
  | true =>
    rw [if_pos rfl] at h
    have := congrArg List.length h
    rw [List.length_append, (insK_perm x R).length_eq, List.length_cons] at this
    exact ⟨by omega, fun h => by cases h⟩
  | false =>
    rw [if_neg (by simp)] at h
    have := congrArg List.length h
    rw [List.length_append, (insK_perm x R).length_eq, (insK_perm x _).length_eq, List.length_cons, List.length_cons] at this
    exact ⟨by omega, fun _ => by omega⟩
theorem InsT.keep {x : KeyD} {R T : List KeyD} {b : Bool} {j : Nat} (h : InsT x R T b j) (hj : j < R.length) (hb : b = true ∨ ltK x R[j] = false) : InsT x R (T ++ [R[j]]) b (j + 1) := by
  unfold InsT at h ⊢
  rw [drop_cons hj] at h
  cases b with
  | true =>
    rw [if_pos rfl] at h ⊢
    rw [List.append_assoc]
    exact h
  | false =>
    rw [if_neg (by simp)] at h ⊢
    have : ltK x R[j] = false := by simpa using hb
    rw [insK_cons, this] at h
    rw [List.append_assoc]
    exact h
theorem InsT.lay {x : KeyD} {R T : List KeyD} {j : Nat} (h : InsT x R T false j) (hj : j < R.length) (hb : ltK x R[j] = true) : InsT x R (T ++ [x]) true j := by
  unfold InsT at h ⊢
  rw [if_pos rfl]
  rw [if_neg (by simp), drop_cons hj] at h
  rw [insK_cons, if_pos hb] at h
  rw [drop_cons hj, List.append_assoc]
  exact h
theorem InsT.end1 {x : KeyD} {R T : List KeyD} (h : InsT x R T true R.length) : T = insK x R := by
  unfold InsT at h
  rw [if_pos rfl, List.drop_length, List.append_nil] at h
  exact h
theorem InsT.end0 {x : KeyD} {R T : List KeyD} (h : InsT x R T false R.length) : T ++ [x] = insK x R := by
  unfold InsT at h
  rw [if_neg (by simp), List.drop_length] at h
  exact h

def InsRel (x : KeyD) (R : List KeyD) (W : World) (s l i : Value) (wr : World) : Prop :=
  ∃ (j : Nat) (T : List KeyD) (b : Bool), j ≤ R.length ∧ i = .int .i64 j ∧ l = .bool b ∧ Fr (fun _ => False) W wr ∧ wr.ownsRow W.heap.size 62 2 s T.length (T.flatMap cellsP) ∧ InsT x R T b j

theorem RNext.chain {w w1 w2 W w' : World} {q : Nat} {T : List KeyD} {Y Y2 : Nat → Prop} (h1 : Fr (fun _ => False) w w1) (h2 : Fr Y w1 w2) (hY : ∀ i, Y2 i → Y i ∨ w1.heap.size ≤ i) (h3 : Fr (fun _ => False) w2 W) (h4 : RNext W q T Y2 w') : RNext w q T Y w' := by
  obtain ⟨Y', p1, p2, p3⟩ := h4
  have hs1 := h1.size
  have hs2 := h2.size
  have hs3 := h3.size
  refine ⟨Y', p1, (((h1.mono (S' := Y) (fun _ _ h => h.elim)).then h2).then (h3.mono (S' := Y) (fun _ _ h => h.elim))).trans p2 (fun i hi h => ?_), fun i hi => ?_⟩
  · rcases hY i h with h | h
    · exact h
    · omega
  · rcases p3 i hi with h | h
    · rcases hY i h with h | h
      · exact Or.inl h
      · exact Or.inr (by omega)
    · exact Or.inr (by omega)

theorem ins_keep {x : KeyD} {R : List KeyD} {W wr w2 w3 : World} {T : List KeyD} {b : Bool} {j : Nat} {s s' : Value} (hj : j < R.length) (hf : Fr (fun _ => False) W wr) (hrow : wr.ownsRow W.heap.size 62 2 s T.length (T.flatMap cellsP)) (hT : InsT x R T b j) (hb : b = true ∨ ltK x R[j] = false)
    (h2 : Fr (fun _ => False) wr w2) (hown : w3.ownsRow W.heap.size 62 2 s' (T.length + 1) (T.flatMap cellsP ++ cellsP R[j])) (hg : w2.grownBy w3 s.ownBlock) : InsRel x R W s' (.bool b) (.int .i64 (j + 1 : Nat)) w3 := by
  refine ⟨j + 1, T ++ [R[j]], b, hj, rfl, rfl, (hf.then h2).grown hg (fun k hk => Or.inr (hrow.lt k hk).1), ?_, hT.keep hj hb⟩
  rw [List.length_append, List.flatMap_append, List.flatMap_singleton]
  exact hown

set_option maxRecDepth 20000 in
set_option maxHeartbeats 4000000 in
theorem set25_any (w : World) (q : Nat) (S : List KeyD) (Y : Nat → Prop) (h : RQ w q S Y) (ho : QOk S) (id at_ : Int) :
    Calls Try.prog 25 #[.pointer (some ⟨q, 0, none⟩), .int .i64 id, .int .i64 at_] w fun e w' => e = .returned (.int .i64 (setN S id at_)) ∧ RNext w q (setK S id at_) Y w' := by
  have h20 := fun n W => may30_any n W
  obtain ⟨i0, hi, hz0, hz1, hz2⟩ := info_parts info62
  have hl := ho.le
  by_cases hb : badK id at_ = true
  · have HR := Lib.hid (show RNext w q (setK S id at_) Y w from ⟨Y, by rw [show setK S id at_ = S by unfold setK setN; rw [if_pos hb]; rfl]; exact h, Fr.refl _ _, fun _ hi => Or.inl hi⟩)
    have e1 : setN S id at_ = 1 := by unfold setN; rw [if_pos hb]
    rw [e1]
    clear h e1
    unfold badK at hb
    cases h1 : mayB id with
    | false =>
      have H20 := Lib.hid (h1 ▸ h20 id)
      clear h20 h1 hb
      go_enter Try.func25, Try.ntmps25
      go_wp2_with fail
      refine (H20.out _).mono ?_
      rintro e w1 ⟨rfl, rfl⟩
      go_wp2
      go_ret
      exact ⟨rfl, HR.out⟩
    | true =>
      have h2 : mayB at_ = false := by
        rw [h1] at hb
        cases h3 : mayB at_
        · rfl
        · rw [h3] at hb; cases hb
      have H20 := Lib.hid (h1 ▸ h20 id)
      have H20' := Lib.hid (h2 ▸ h20 at_)
      clear h20 h1 h2 hb
      go_enter Try.func25, Try.ntmps25
      go_wp2_with fail
      refine (H20.out _).mono ?_
      rintro e w1 ⟨rfl, rfl⟩
      go_wp2_with fail
      refine (H20'.out _).mono ?_
      rintro e w1 ⟨rfl, rfl⟩
      go_wp2
      go_ret
      exact ⟨rfl, HR.out⟩
  · have hb : badK id at_ = false := by simpa using hb
    obtain ⟨h2, h1⟩ := badK_ok hb
    have H20 := Lib.hid (h1 ▸ h20 id)
    have H20' := Lib.hid (h2 ▸ h20 at_)
    have HAT := Lib.hid (at17_any w q S Y h id (by omega) (atK id S) (Lib.hid rfl))
    rw [atK_has] at HAT
    clear h20 h1 h2
    by_cases hfull : hasK id S = false ∧ S.length = 256
    · obtain ⟨hne, hfu⟩ := hfull
      have e1 : setN S id at_ = 6 := by unfold setN; rw [hb, hne, hfu]; rfl
      have HR := Lib.hid (fun w1 (hf : Fr (fun _ => False) w w1) => show RNext w q (setK S id at_) Y w1 from ⟨Y, by rw [show setK S id at_ = S by unfold setK; rw [e1]; rfl]; exact h.fr0 hf, hf.mono (fun _ _ h => h.elim), fun _ hi => Or.inl hi⟩)
      rw [e1]
      rw [hne] at HAT
      have HQ := Lib.hid h
      clear h ho e1 hne hb hl
      go_enter Try.func25, Try.ntmps25
      go_wp2_with fail
      refine (H20.out _).mono ?_
      rintro e w1 ⟨rfl, rfl⟩
      go_wp2_with fail
      refine (H20'.out _).mono ?_
      rintro e w1 ⟨rfl, rfl⟩
      go_wp2_with fail
      refine (HAT.out).mono ?_
      rintro e w1 ⟨rfl, hf1⟩
      obtain ⟨v1, hb1, hr1, hYe⟩ := HQ.out.fr0 hf1
      obtain ⟨A, cap, rfl⟩ := row_shape hr1
      have c0 : w1.cell? ⟨q, 0, none⟩ = some (.slice A S.length cap) := hb1.cell 0
      rw [hfu] at c0
      clear hb1 hr1 hYe
      go_wp2
      go_ret
      exact ⟨rfl, HR.out _ hf1⟩
    · have hsn : setN S id at_ = 0 := by
        unfold setN; rw [hb]
        simp only [Bool.false_eq_true, if_false]
        rw [if_neg]
        intro h3
        simp only [Bool.and_eq_true, Bool.not_eq_true', beq_iff_eq] at h3
        exact hfull h3
      have esk : setK S id at_ = insK (at_, id) (remK id S) := by unfold setK; rw [if_pos hsn]
      rw [hsn, esk]
      have HQ := Lib.hid h
      have HC := Lib.hid (fun w1 (hf : Fr (fun _ => False) w w1) => cancel26_any w1 q S Y (h.fr0 hf) id (by omega) ho.ids)
      have hR := ho.rem id
      have hRl := hR.le
      have hfull2 : hasK id S = true ∨ (hasK id S = false ∧ ((S.length : Int) == 256) = false) := by
        cases h3 : hasK id S with
        | true => exact Or.inl rfl
        | false => exact Or.inr ⟨rfl, by simp; intro h4; exact hfull ⟨h3, by omega⟩⟩
      generalize remK id S = R at *
      clear h ho hsn esk hb hfull hR
      go_enter Try.func25, Try.ntmps25
      go_wp2_with fail
      refine (H20.out _).mono ?_
      rintro e w1 ⟨rfl, rfl⟩
      go_wp2_with fail
      refine (H20'.out _).mono ?_
      rintro e w1 ⟨rfl, rfl⟩
      go_wp2_with fail
      refine (HAT.out).mono ?_
      rintro e w1 ⟨rfl, hf1⟩
      obtain ⟨v1, hb1, hr1, hYe⟩ := HQ.out.fr0 hf1
      obtain ⟨A, cap, rfl⟩ := row_shape hr1
      have c0 : w1.cell? ⟨q, 0, none⟩ = some (.slice A S.length cap) := hb1.cell 0
      clear hb1 hr1 hYe
      rcases hfull2 with h3 | ⟨h3, h6⟩
      all_goals
        rw [h3] at HC
        go_wp2_with fail
        refine (HC.out _ hf1).mono ?_
        rintro e w2 ⟨rfl, Y2, hq2, hf2, hY2⟩
        obtain ⟨v2, hb2, hr2, rfl⟩ := hq2
        obtain ⟨A2, cap2, rfl⟩ := row_shape hr2
        have HB2 := Lib.hid hb2
        have HR2 := Lib.hid hr2
        clear hb2 hr2
        have HW := Lib.hid (Blk.new w2 62 #[.int .i64 at_, .int .i64 id])
        have hfW : Fr (fun _ => False) w2 (w2.alloc (.cells #[.int .i64 at_, .int .i64 id] 62)) := (Fr.refl _ w2).alloc _
        have HBW := Lib.hid (HB2.out.fr hfW (fun h => h))
        have HRW := Lib.hid (ownsRow_fr HR2.out hfW (fun _ _ h => h))
        have HCH := Lib.hid (fun T w' h4 => RNext.chain (q := q) (T := T) (w' := w') hf1 hf2 hY2 hfW h4)
        have hszW : (w2.alloc (.cells #[.int .i64 at_, .int .i64 id] 62)).heap.size = w2.heap.size + 1 := by simp
        clear c0 hfW hY2 hf2 hf1 HB2 HR2 HC HAT HQ
        go_wp2_with fail
        generalize (w2.alloc (.cells #[.int .i64 at_, .int .i64 id] 62)) = W at *
        go_loopw [10, 11, 12] (fun s l i wr => InsRel (at_, id) R W s l i wr) (fun _ _ i _ => R.length - (intOf i).toNat)
        case atStart => exact ⟨0, [], false, Nat.zero_le _, rfl, rfl, Fr.refl _ _, World.ownsRow_nil _ _ _ _, rfl⟩
        case round =>
          obtain ⟨j, T, b, hj, rfl, rfl, hf, hrow, hT⟩ := hrel
          have hb1 := HBW.out.fr hf (fun h => h)
          have c0 : wr.cell? ⟨q, 0, none⟩ = some (.slice A2 R.length cap2) := hb1.cell 0
          have f0 := hb1.frozen 0
          have hx1 := HW.out.fr hf (fun h => h)
          have x0 : wr.cell? ⟨w2.heap.size, 0, none⟩ = some (.int .i64 at_) := hx1.cell 0
          have x1 : wr.cell? ⟨w2.heap.size, 1, none⟩ = some (.int .i64 id) := hx1.cell 1
          obtain ⟨A3, cap3, rfl⟩ := row_shape hrow
          obtain ⟨hl1, hl2⟩ := hT.len hj
          have hsz := hf.size
          by_cases hlt : j < R.length
          · obtain ⟨g, cp, hv, c1, c2⟩ := pair_cells (ownsRow_fr HRW.out hf (fun _ _ h => h)) hlt
            cases hv
            have hKEEP := fun wr T b s (hf : Fr (fun _ => False) W wr) hrow hT hb w2 w3 s' h2 hown hg => ins_keep (x := (at_, id)) (wr := wr) (T := T) (b := b) (s := s) (w2 := w2) (w3 := w3) (s' := s') hlt hf hrow hT hb h2 hown hg
            simp only [cellsP] at hKEEP
            have HLAY := Lib.hid (fun (hT : InsT (at_, id) R T false j) h => hT.lay hlt h)
            have HKEEP := Lib.hid hKEEP
            have HCELL := Lib.hid (fun w' (h : Fr (fun _ => False) W w') => (⟨(HBW.out.fr h (fun h => h)).cell 0, by
              obtain ⟨g', cp', hv', c1', c2'⟩ := pair_cells (ownsRow_fr HRW.out h (fun _ _ h => h)) hlt
              cases hv'
              exact ⟨c1', c2', (HW.out.fr h (fun h => h)).cell 0, (HW.out.fr h (fun h => h)).cell 1⟩⟩ : w'.cell? ⟨q, 0, none⟩ = some (.slice (some ⟨g, 0, none⟩) R.length cap2) ∧ w'.cell? ⟨g, j * 2, none⟩ = some (.int .i64 (R[j]'hlt).1) ∧ w'.cell? ⟨g, j * 2 + 1, none⟩ = some (.int .i64 (R[j]'hlt).2) ∧ w'.cell? ⟨w2.heap.size, 0, none⟩ = some (.int .i64 at_) ∧ w'.cell? ⟨w2.heap.size, 1, none⟩ = some (.int .i64 id)))
            have HF := Lib.hid hf
            have HROW := Lib.hid hrow
            have HT := Lib.hid hT
            generalize R[j] = x at *
            have H31 := Lib.hid (fun W => less31_any at_ id x.1 x.2 W)
            have l0 := Later.cell c0
            have l1 := Later.cell c1
            have l2 := Later.cell c2
            have l3 := Later.cell x0
            have l4 := Later.cell x1
            clear hKEEP hf hrow hT hb1 hx1 c1 c2 x0 x1 f0
            cases b with
            | true =>
              go_wp2_with fail
              refine wp_region_later wr (by kernel_rfl) (by kernel_rfl) (Fr.refl _ _) ?_
              repeat (go_big_quiet_step (first | (go_at_call 31; exact later_call (H31.out _))))
              refine wpQuiet_nil ?_
              rintro _ ⟨d, rfl⟩
              clear l0 l1 l2 l3 l4 c0
              have hfd := HF.out.then d.fr
              have hrd := ownsRow_fr HROW.out d.fr (fun _ _ h => h)
              obtain ⟨e0, e1, e2, e3, e4⟩ := HCELL.out _ hfd
              have hszd := hfd.size
              have hnw1 := news_one d.val 62 [.int .i64 x.1, .int .i64 x.2]
              go_wp2_with (at_builtin; refine wpList_append_own_at _ rfl _ _ 38 rfl W.heap.size 62 i0 (.agg #[.int .i64 0, .int .i64 0]) 2 16 Try.underlying38 hi hz0 hz1 hz2 rfl (by decide) _ _ _ rfl (hrd.alloc _) ⟨d.val.heap.size, 0, none⟩ 1 1 [.int .i64 x.1, .int .i64 x.2] rfl rfl hnw1 (by simp [Value.oneCell']) (by unfold maxLen; omega) (by omega) (by simp only [World.size_alloc]; omega) ?_; intro v1 w7 hown1 hgrow1 hne1 hat1; obtain ⟨g1, cap1, rfl⟩ := row_succ hown1)
              go_roundw
              case rel =>
                have := HKEEP.out _ T true _ hfd hrd HT.out (Or.inl rfl) _ _ _ ((Fr.refl _ _).alloc _) hown1 hgrow1
                simpa using this
              case measure => simp [intOf]; omega
            | false =>
              have hl3 := hl2 rfl
              by_cases hlx : ltK (at_, id) x = true
              · have H31 := Lib.hid (fun W => (show ltK (at_, id) (x.1, x.2) = true from hlx) ▸ H31.out W)
                go_wp2_with fail
                refine wp_region_later wr (by kernel_rfl) (by kernel_rfl) (Fr.refl _ _) ?_
                repeat (go_big_quiet_step (first | (go_at_call 31; exact later_call (H31.out _))))
                refine wpQuiet_nil ?_
                rintro _ ⟨d, rfl⟩
                clear l0 l1 l2 l3 l4 c0
                have hfd := HF.out.then d.fr
                have hrd := ownsRow_fr HROW.out d.fr (fun _ _ h => h)
                obtain ⟨e0, e1, e2, e3, e4⟩ := HCELL.out _ hfd
                have hszd := hfd.size
                have hnw1 := news_one d.val 62 [.int .i64 at_, .int .i64 id]
                have hl4 : (T ++ [(at_, id)]).length = T.length + 1 := by simp
                go_wp2_with (at_builtin; first | (refine wpList_append_own_at _ rfl _ _ 38 rfl W.heap.size 62 i0 (.agg #[.int .i64 0, .int .i64 0]) 2 16 Try.underlying38 hi hz0 hz1 hz2 rfl (by decide) _ _ _ rfl (hrd.alloc _) ⟨d.val.heap.size, 0, none⟩ 1 1 [.int .i64 at_, .int .i64 id] rfl rfl hnw1 (by simp [Value.oneCell']) (by unfold maxLen; omega) (by omega) (by simp only [World.size_alloc]; omega) ?_; intro v1 w7 hown1 hgrow1 hne1 hat1; obtain ⟨g1, cap1, rfl⟩ := row_succ hown1; have hf7 := (hfd.alloc _).grown hgrow1 (fun k hk => Or.inr (hrd.lt k hk).1); obtain ⟨y0, y1, y2, y3, y4⟩ := HCELL.out _ hf7; have hsz7 := hf7.size; have hnw2 := news_one w7 62 [.int .i64 x.1, .int .i64 x.2]) | (refine wpList_append_own_at _ rfl _ _ 38 rfl W.heap.size 62 i0 (.agg #[.int .i64 0, .int .i64 0]) 2 16 Try.underlying38 hi hz0 hz1 hz2 rfl (by decide) _ _ _ rfl (hown1.alloc _) ⟨w7.heap.size, 0, none⟩ 1 1 [.int .i64 x.1, .int .i64 x.2] rfl rfl hnw2 (by simp [Value.oneCell']) (by unfold maxLen; omega) (by omega) (by simp only [World.size_alloc]; omega) ?_; intro v2 w8 hown2 hgrow2 hne2 hat2; obtain ⟨g2, cap2, rfl⟩ := row_succ hown2))
                have hrow7 : w7.ownsRow W.heap.size 62 2 (.slice (some ⟨g1, 0, none⟩) (T.length + 1) cap1) (T ++ [(at_, id)]).length ((T ++ [(at_, id)]).flatMap cellsP) := by
                  rw [List.length_append, List.flatMap_append, List.flatMap_singleton]
                  exact hown1
                have HT2 := Lib.hid (HLAY.out HT.out hlx)
                go_roundw
                case rel =>
                  have := HKEEP.out _ (T ++ [(at_, id)]) true _ hf7 hrow7 HT2.out (Or.inl rfl) _ _ _ ((Fr.refl _ _).alloc _) (by rw [hl4, List.flatMap_append, List.flatMap_singleton]; exact hown2) hgrow2
                  simpa using this
                case measure => simp [intOf]; omega
              · have hlx : ltK (at_, id) x = false := by simpa using hlx
                have H31 := Lib.hid (fun W => (show ltK (at_, id) (x.1, x.2) = false from hlx) ▸ H31.out W)
                go_wp2_with fail
                refine wp_region_later wr (by kernel_rfl) (by kernel_rfl) (Fr.refl _ _) ?_
                repeat (go_big_quiet_step (first | (go_at_call 31; exact later_call (H31.out _))))
                refine wpQuiet_nil ?_
                rintro _ ⟨d, rfl⟩
                clear l0 l1 l2 l3 l4 c0
                have hfd := HF.out.then d.fr
                have hrd := ownsRow_fr HROW.out d.fr (fun _ _ h => h)
                obtain ⟨e0, e1, e2, e3, e4⟩ := HCELL.out _ hfd
                have hszd := hfd.size
                have hnw1 := news_one d.val 62 [.int .i64 x.1, .int .i64 x.2]
                go_wp2_with (at_builtin; refine wpList_append_own_at _ rfl _ _ 38 rfl W.heap.size 62 i0 (.agg #[.int .i64 0, .int .i64 0]) 2 16 Try.underlying38 hi hz0 hz1 hz2 rfl (by decide) _ _ _ rfl (hrd.alloc _) ⟨d.val.heap.size, 0, none⟩ 1 1 [.int .i64 x.1, .int .i64 x.2] rfl rfl hnw1 (by simp [Value.oneCell']) (by unfold maxLen; omega) (by omega) (by simp only [World.size_alloc]; omega) ?_; intro v1 w7 hown1 hgrow1 hne1 hat1; obtain ⟨g1, cap1, rfl⟩ := row_succ hown1)
                go_roundw
                case rel =>
                  have := HKEEP.out _ T false _ hfd hrd HT.out (Or.inr hlx) _ _ _ ((Fr.refl _ _).alloc _) hown1 hgrow1
                  simpa using this
                case measure => simp [intOf]; omega
          · obtain rfl : j = R.length := by omega
            cases b with
            | true =>
              have HFIN := Lib.hid (show RNext w q (insK (at_, id) R) Y (wr.setCell ⟨q, 0, none⟩ (.slice A3 T.length cap3)) by
                rw [← hT.end1]
                exact HCH.out _ _ (RQ.store HBW.out hf hrow))
              clear hrow hT hb1 hx1
              go_wp2
              go_ret
              exact ⟨rfl, HFIN.out⟩
            | false =>
              have hl3 := hl2 rfl
              have HEND := Lib.hid hT.end0
              have hnw1 := news_one wr 62 [.int .i64 at_, .int .i64 id]
              clear hT hb1 hx1
              go_wp2_with (at_builtin; refine wpList_append_own_at _ rfl _ _ 38 rfl W.heap.size 62 i0 (.agg #[.int .i64 0, .int .i64 0]) 2 16 Try.underlying38 hi hz0 hz1 hz2 rfl (by decide) _ _ _ rfl (hrow.alloc _) ⟨wr.heap.size, 0, none⟩ 1 1 [.int .i64 at_, .int .i64 id] rfl rfl hnw1 (by simp [Value.oneCell']) (by unfold maxLen; omega) (by omega) (by simp only [World.size_alloc]; omega) ?_; intro v1 w7 hown1 hgrow1 hne1 hat1; obtain ⟨g1, cap1, rfl⟩ := row_succ hown1; have hf7 := (hf.alloc _).grown hgrow1 (fun k hk => Or.inr (hrow.lt k hk).1); have hb7 := HBW.out.fr hf7 (fun h => h); have y0 := hb7.cell 0; have y1 := hb7.frozen 0)
              have hrow7 : w7.ownsRow W.heap.size 62 2 (.slice (some ⟨g1, 0, none⟩) (T.length + 1) cap1) (T ++ [(at_, id)]).length ((T ++ [(at_, id)]).flatMap cellsP) := by
                rw [List.length_append, List.flatMap_append, List.flatMap_singleton]
                exact hown1
              have HFIN := Lib.hid (HCH.out _ _ (RQ.store HBW.out hf7 hrow7))
              rw [HEND.out] at HFIN
              go_wp2
              go_ret
              exact ⟨rfl, HFIN.out⟩

end Go.Proofs.Ytdlpiaglgdafoaa
