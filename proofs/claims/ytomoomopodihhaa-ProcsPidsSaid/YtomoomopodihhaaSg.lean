/-
  ProcsSignals, walked.
-/
import Derived.Test.YtomoomopodihhaaHa
namespace Go.Proofs.Ytomoomopodihhaa
open Go.RowKit Go.Maps

theorem sig_cell {W : World} {base n : Nat} {v : Value} {S : List Int} (h : W.ownsRow base 3 1 v n (rowI S)) (hn : S.length = n) {i : Nat} (hi : i < n) : ∃ g cap, v = .slice (some ⟨g, 0, none⟩) n cap ∧ W.cell? ⟨g, i, none⟩ = some (.int .i64 (S[i]'(by omega))) := by
  subst hn
  exact row_elem1 (fun x : Int => Value.int .i64 x) h hi

/-- The signals of the first m. -/
def SigRel (w1 : World) (T : List TaskD) (K : List (TaskD × Int)) (sv i : Value) (wk : World) : Prop :=
  ∃ m : Nat, m ≤ T.length ∧ i = .int .i64 m ∧ wk.ownsRow w1.heap.size 3 1 sv m (rowI ((K.map (·.2)).take m)) ∧ Fr (fun _ => False) w1 wk

/-- Between two rounds of 'ProcsSignals', 'ProcsGone'. -/
def TabRel (w : World) (n0 t : Nat) (i : Value) (wr : World) : Prop :=
  ∃ (n : Nat) (K : List (TaskD × Int)) (last : Int), n ≤ n0 ∧ i = .int .i64 n ∧ PS wr t (fun i => w.heap.size ≤ i) K last ∧ last ≤ n ∧ Fr (fun i => w.heap.size ≤ i) w wr

theorem PS.both {w W : World} {t : Nat} {K : List (TaskD × Int)} {last : Int} {B : Nat → Prop} (h : PS w t B K last) (hf : Fr (fun _ => False) w W) :
    DSt (W.alloc (.cells #[.slice none 0 0, .slice none 0 0, .int .i64 0] 58)) t W.heap.size 0 (fun i => (B i ∧ i < w.heap.size) ∨ W.heap.size ≤ i) K last := by
  obtain ⟨X, h1, h2, h3⟩ := h
  have h4 := h1.fr0 hf
  refine ⟨X, _, h4.fr0 ((Fr.refl _ W).alloc _), RTab.new W, fun i hi e => ?_, fun i hi => Or.inl ⟨h2 i hi, h1.lt hi⟩, fun i hi => Or.inr (by omega)⟩
  have := h4.lt hi
  omega

theorem DSt.ps {w : World} {t k n : Nat} {K : List (TaskD × Int)} {last : Int} {B B' : Nat → Prop} (h : DSt w t k n B K last) (hb : ∀ i, B i → B' i) (hs : ∀ i, w.heap.size ≤ i → B' i) : PS w t B' K last := by
  obtain ⟨X, Y, h1, _, _, h4, _⟩ := h
  exact ⟨X, h1, fun i hi => hb i (h4 i hi), hs⟩
theorem PS.ok {w : World} {t : Nat} {K : List (TaskD × Int)} {last : Int} {B : Nat → Prop} (h : PS w t B K last) : KOk K last := by
  obtain ⟨X, h1, _⟩ := h
  exact h1.ok

set_option maxRecDepth 20000 in
set_option maxHeartbeats 8000000 in
theorem procsSignals12_any (w : World) (A : Option Addr) (cap : Nat) (L : List OpP) (h : OpsP w w.heap.size A L) (hl : L.length ≤ maxLen) :
    Calls Try.prog 12 #[.slice A L.length cap] w fun e w' => e = .returned (.bool true) ∧ Fr (fun i => w.heap.size ≤ i) w w' := by
  have HO := Lib.hid h
  obtain ⟨j0, ji, jz0, jz1, jz2⟩ := info_parts info3
  have C32 := small32_any w A cap L h hl 60
  obtain ⟨sm, hsm⟩ : ∃ sm, smallP L 60 = sm := ⟨_, rfl⟩
  rw [hsm] at C32
  have C32 := Lib.hid C32
  have HSM := Lib.hid hsm
  unfold maxLen at hl
  clear h hsm
  go_enter Try.func12, Try.ntmps12
  go_wp2_with fail
  refine C32.out.mono ?_
  rintro e w1 ⟨rfl, hf1⟩
  have HF1 := Lib.hid (hf1.mono (S' := fun i => w.heap.size ≤ i) (fun _ _ h => h.elim))
  clear hf1
  cases sm with
  | false =>
    go_wp2_with fail
    refine (live33_any _).mono ?_
    rintro e w2 ⟨rfl, hf2⟩
    go_wp2
    go_ret
    exact ⟨rfl, HF1.out.then (hf2.mono (fun _ _ h => h.elim))⟩
  | true =>
    obtain ⟨hs3, hL60⟩ := smallP_true HSM.out
    have HS3 := Lib.hid hs3
    have hL60 : L.length ≤ 60 := by omega
    have HN := Lib.hid (new_ps w1)
    clear hs3
    go_wp2_with fail
    refine HN.out.mono ?_
    rintro e w2 ⟨t, rfl, hps, hf2⟩
    have hsz1 := HF1.out.size
    have HR := Lib.hid (show TabRel w L.length t (.int .i64 (0 : Nat)) w2 from ⟨0, [], 0, Nat.zero_le _, rfl, (by
      obtain ⟨X, h1, h2, h3⟩ := hps
      exact ⟨X, h1, fun i hi => Nat.le_trans hsz1 (h2 i hi), fun i hi => Nat.le_trans hsz1 (h3 i hi)⟩), by omega, HF1.out.then (hf2.mono (fun _ _ h => h.elim))⟩)
    clear hps hf2
    go_wp2_with fail
    go_loopw [4] (fun i wr => TabRel w L.length t i wr) (fun i _ => L.length - (intOf i).toNat)
    case atStart => exact HR.out
    case round =>
      obtain ⟨n, K, last, hn, rfl, hP, hla, hF⟩ := hrel
      by_cases hlt : n < L.length
      · have HOK := Lib.hid (hP.ok)
        have C36 := Lib.hid (list_ps hP)
        have HP := Lib.hid hP
        have HF := Lib.hid hF
        have hKl := hP.ok.2.2.2
        have hsw : w.heap.size ≤ wr.heap.size := hF.size
        obtain ⟨sz0, hz0⟩ : ∃ z, z = wr.heap.size := ⟨_, rfl⟩
        have HZ0 := Lib.hid hz0
        clear hP hF hz0
        go_wp2_with fail
        refine C36.out.mono ?_
        rintro e wa ⟨va, T, rfl, hTa, hTK, hfa⟩
        obtain ⟨Aa, capa, rfl⟩ := row_shape hTa.row
        have hKT : K.length = T.length := by
          have := congrArg List.length hTK
          simpa using this.symm
        have HTA := Lib.hid hTa
        have HTK := Lib.hid hTK
        have HFA := Lib.hid hfa
        have HPA := Lib.hid (HP.out.fr0 hfa)
        have HS0 := Lib.hid (show SigRel wa T K (.slice none 0 0) (.int .i64 (0 : Nat)) wa from ⟨0, Nat.zero_le _, rfl, World.ownsRow_nil _ _ _ _, Fr.refl _ _⟩)
        clear hTa hTK hfa
        go_wp2_with fail
        go_loopw [6, 7] (fun sv i wk => SigRel wa T K sv i wk) (fun _ i _ => T.length - (intOf i).toNat)
        case atStart => exact HS0.out
        case round =>
          obtain ⟨m, hm, rfl, hsv, hf⟩ := hrel
          obtain ⟨As, caps, rfl⟩ := row_shape hsv
          by_cases hlm : m < T.length
          · obtain ⟨q, hq, hqx, hkk, hqk⟩ := list_mem HTK.out hlm
            obtain ⟨ga, ca, hv, hce⟩ := task_cell (ownsRow_fr (ownsRow_base_a' HTA.out.row (Nat.zero_le _)) hf (fun _ _ h => h)) hlm
            cases hv
            have z0 := hce 0 _ (by omega) rfl
            simp only [Nat.add_zero] at z0
            have hr := HOK.out.2.1 q hq
            have hsg := HOK.out.sig hq
            have e0 : q.1.pid = (T[m]'hlm).pid := by rw [hqx]; rfl
            rw [e0] at hr hsg
            generalize (T[m]'hlm).pid = pd at *
            have C43 := Lib.hid (signalled_ps (HPA.out.fr0 hf) pd (by unfold wf64; omega))
            rw [hsg] at C43
            have hst : (K.map (·.2)).take (m + 1) = (K.map (·.2)).take m ++ [q.2] := by
              rw [List.take_succ_eq_append_getElem (by simpa using hkk)]
              simp [hqk]
            have HST := Lib.hid hst
            have hsz := hf.size
            have HRW := Lib.hid (fun w9 (sv' : Value) (hown : w9.ownsRow wa.heap.size 3 1 sv' (m + 1) (rowI ((K.map (·.2)).take m) ++ [.int .i64 q.2])) (hg : (wr.alloc (.cells #[.int .i64 q.2] 3)).grownBy w9 (Value.slice As m caps).ownBlock) =>
              (⟨m + 1, hlm, rfl, by rw [HST.out]; unfold rowI at hown ⊢; rw [List.map_append]; exact hown, (hf.alloc _).grown hg (fun b hb => Or.inr (hsv.lt b hb).1)⟩ : SigRel wa T K sv' (.int .i64 (m + 1 : Nat)) w9))
            generalize q.2 = sg at *
            have hone : ∀ u ∈ ([.int .i64 sg] : List Value), u.oneCell' = true := oneI [sg]
            clear hce hr hsg e0 hst hq hqx hqk
            go_wp2_with (first | (go_at_call 43; refine C43.out.mono ?_; rintro e w7 ⟨rfl, rfl⟩) | (at_builtin; refine wpList_app _ rfl _ _ 45 rfl wa.heap.size 3 j0 (.int .i64 0) 1 8 Try.underlying45 ji jz0 jz1 jz2 rfl (by decide) _ _ _ rfl (hsv.alloc _) (some ⟨wr.heap.size, 0, none⟩) 1 1 [.int .i64 sg] rfl (NewsOk.block (Blk.new wr 3 #[.int .i64 sg]) rfl hone) (by unfold maxLen; omega) (by omega) (hf.alloc _).size (m + 1) rfl ?_; intro A9 cap9 w9 hown9 hgrow9 hat9))
            go_roundw
            case rel => exact HRW.out _ _ hown9 hgrow9
            case measure => simp [intOf]; omega
          · obtain rfl : m = T.length := by omega
            have hS : (K.map (·.2)).length = T.length := by simp [hKT]
            have hsv : wr.ownsRow wa.heap.size 3 1 (.slice As T.length caps) T.length (rowI (K.map (·.2))) := by rw [List.take_of_length_le (by omega)] at hsv; exact hsv
            have hff := HFA.out.then hf
            have hfb : Fr (fun _ => False) wr (wr.alloc (.cells #[.slice none 0 0, .slice none 0 0, .int .i64 0] 58)) := (Fr.refl _ wr).alloc _
            have hF3 := (HF.out.then (hff.mono (fun _ _ h => h.elim))).then (hfb.mono (fun _ _ h => h.elim))
            have hszf := hff.size
            have hsza := HFA.out.size
            have hszr := hf.size
            obtain ⟨b, off, rfl, hc⟩ := HO.out.el hF3 hlt
            have hok := HO.out.op hF3 HS3.out (B := fun i => (w.heap.size ≤ i ∧ i < sz0) ∨ wr.heap.size ≤ i) (fun i hi => by rcases hi with hi | hi; exact hi.1; omega) (List.getElem_mem hlt)
            have hboth := HP.out.both hff
            rw [← HZ0.out] at hboth hsza hsw
            generalize (L[n]'hlt) = o at *
            have HSS := Lib.hid (fun (p q : TaskD × Int) (hp : p ∈ K) (hq : q ∈ doesK K last o) (e : q.1.pid = p.1.pid) => sig_step HOK.out hp hq e)
            have HLL := Lib.hid (doesL_le (K := K) (last := last) (o := o))
            obtain ⟨do_, pid, nn, xp, xj, xe, xs, xr, xc, xn, xt, xo⟩ := o
            obtain ⟨A', cap', hv⟩ := hok.cor.ints.sh
            have hv : xc = .slice A' xn.length cap' := hv
            subst hv
            obtain ⟨c0, c1, c2, c3, c4, c5, c6, c7, c8, c9, c10⟩ := ar11 (off := off + n * 11) hc
            have C35 := Lib.hid (does35_any _ t wr.heap.size 0 _ K last hboth (fun i hi => Or.inr (by rw [World.size_alloc] at hi; omega)) (by omega) ⟨do_, pid, nn, xp, xj, xe, xs, xr, .slice A' xn.length cap', xn, xt, xo⟩ hok (by omega))
            have hwas := ownsRow_fr (ownsRow_base_a' HTA.out.row (Nat.zero_le _)) (hf.then hfb) (fun _ _ h => h)
            have hsg3 := ownsRow_fr (ownsRow_base_a' hsv (Nat.zero_le _)) hfb (fun _ _ h => h)
            have HWL := Lib.hid (fun k (hk : (Value.slice Aa T.length capa).ownBlock = some k) => show sz0 ≤ k ∧ k < wa.heap.size from by rw [HZ0.out]; exact HTA.out.row.lt k hk)
            have HSL := Lib.hid (fun k (hk : (Value.slice As T.length caps).ownBlock = some k) => hsv.lt k hk)
            have HWAS := Lib.hid hwas
            have HSG3 := Lib.hid hsg3
            have HF3 := Lib.hid hF3
            clear hsv hff hfb hF3 hf hc hok hboth hwas hsg3
            simp only [OpP.val] at C35
            go_wp2_with fail
            refine C35.out.mono ?_
            rintro e w4 ⟨b4, rfl, hd4, hf4⟩
            clear c0 c1 c2 c3 c4 c5 c6 c7 c8 c9 c10
            have hszg := hf4.size
            rw [World.size_alloc] at hszg
            have hps4 := hd4.ps (B' := fun i => w.heap.size ≤ i) (fun i hi => by rcases hi with hi | hi; exact hi.1; omega) (fun i hi => by omega)
            have HW4 := Lib.hid (ownsRow_fr HWAS.out hf4 (fun k hk hb => by have := HWL.out k hk; rcases hb with hb | hb <;> omega))
            have HS4 := Lib.hid (ownsRow_fr HSG3.out hf4 (fun k hk hb => by have := HSL.out k hk; rcases hb with hb | hb <;> omega))
            have HF4 := Lib.hid (HF3.out.then (hf4.mono (S' := fun i => w.heap.size ≤ i) (fun i _ hi => by rcases hi with hi | hi; exact hi.1; omega)))
            have HP4 := Lib.hid hps4
            have C36 := Lib.hid (list_ps hps4)
            clear hd4 hf4 hps4 HWAS HSG3
            generalize doesK K last ⟨do_, pid, nn, xp, xj, xe, xs, xr, .slice A' xn.length cap', xn, xt, xo⟩ = K5 at *
            generalize doesL K last ⟨do_, pid, nn, xp, xj, xe, xs, xr, .slice A' xn.length cap', xn, xt, xo⟩ = l5 at *
            go_wp2_with fail
            refine C36.out.mono ?_
            rintro e w5 ⟨vb, T2, rfl, hTb, hTK2, hfb⟩
            obtain ⟨Ab, capb, rfl⟩ := row_shape hTb.row
            have HW5 := Lib.hid (ownsRow_fr HW4.out hfb (fun _ _ h => h))
            have HS5 := Lib.hid (ownsRow_fr HS4.out hfb (fun _ _ h => h))
            have HN5 := Lib.hid (ownsRow_base_a' hTb.row (Nat.zero_le _))
            have HP5 := Lib.hid (HP4.out.fr0 hfb)
            have HF5 := Lib.hid (HF4.out.then (hfb.mono (fun _ _ h => h.elim)))
            have HTK2 := Lib.hid hTK2
            have hT2 : T2.length ≤ 256 := by
              have h1 := congrArg List.length hTK2
              have h2 := HP5.out.ok.2.2.2
              simp only [List.length_map] at h1
              omega
            clear hTb hTK2 hfb HW4 HS4 HP4 HF4
            go_wp2_with fail
            go_loopw [9] (fun j wk => ∃ m : Nat, m ≤ T.length ∧ j = .int .i64 m ∧ Hid (Fr (fun _ => False) w5 wk)) (fun j _ => T.length - (intOf j).toNat)
            case atStart => exact ⟨0, Nat.zero_le _, rfl, Lib.hid (Fr.refl _ _)⟩
            case round =>
              obtain ⟨m, hm, rfl, hf5⟩ := hrel
              by_cases hlm : m < T.length
              · go_wp2_with fail
                go_loopw [10] (fun j wk => ∃ m2 : Nat, m2 ≤ T2.length ∧ j = .int .i64 m2 ∧ Hid (Fr (fun _ => False) w5 wk)) (fun j _ => T2.length - (intOf j).toNat)
                case atStart => exact ⟨0, Nat.zero_le _, rfl, hf5⟩
                case round =>
                  obtain ⟨m2, hm2, rfl, hf6⟩ := hrel
                  by_cases hl2 : m2 < T2.length
                  · obtain ⟨q, hq, hqx, hkk, hqk⟩ := list_mem HTK.out hlm
                    obtain ⟨q2, hq2, hqx2, _⟩ := list_mem HTK2.out hl2
                    obtain ⟨ga, ca, hv, hce⟩ := task_cell (ownsRow_fr HW5.out hf6.out (fun _ _ h => h)) hlm
                    cases hv
                    obtain ⟨gb, cb, hv, hcf⟩ := task_cell (ownsRow_fr HN5.out hf6.out (fun _ _ h => h)) hl2
                    cases hv
                    obtain ⟨gs, cs, hv, s0⟩ := sig_cell (ownsRow_fr HS5.out hf6.out (fun _ _ h => h)) hS hlm
                    cases hv
                    have y0 := hce 0 _ (by omega) rfl
                    have y6 := hce 6 _ (by omega) rfl
                    have y7 := hce 7 _ (by omega) rfl
                    have z0 := hcf 0 _ (by omega) rfl
                    have z6 := hcf 6 _ (by omega) rfl
                    have z7 := hcf 7 _ (by omega) rfl
                    simp only [Nat.add_zero] at y0 z0
                    have hr := HP5.out.ok.2.1 q2 hq2
                    have hsg := HP5.out.ok.sig hq2
                    have hss := HSS.out q q2 hq hq2
                    have e0 : q.1.pid = (T[m]'hlm).pid := by rw [hqx]; rfl
                    have e6 : q.1.state = (T[m]'hlm).state := by rw [hqx]; rfl
                    have e7 : q.1.code = (T[m]'hlm).code := by rw [hqx]; rfl
                    have f0 : q2.1.pid = (T2[m2]'hl2).pid := by rw [hqx2]; rfl
                    have f6 : q2.1.state = (T2[m2]'hl2).state := by rw [hqx2]; rfl
                    have f7 : q2.1.code = (T2[m2]'hl2).code := by rw [hqx2]; rfl
                    have es : (K.map (·.2))[m]'(by omega) = q.2 := by simp [hqk]
                    have hfacts : (T2[m2]'hl2).pid = (T[m]'hlm).pid → (q.2 = 9 → q2.2 = 9) ∧ (q.2 = 15 → q2.2 ≠ 0) ∧ (T[m]'hlm).state ≤ (T2[m2]'hl2).state ∧ ((T[m]'hlm).state = 2 → (T2[m2]'hl2).code = (T[m]'hlm).code ∧ q2.2 = q.2) := fun hp => by
                      have h1 := hss (by rw [f0, e0]; exact hp)
                      rw [← e6, ← e7, ← f6, ← f7]
                      exact ⟨h1.nine, h1.term, h1.rise, h1.gone⟩
                    rw [es] at s0
                    rw [f0] at hsg hr
                    have HFC := Lib.hid hfacts
                    generalize (T2[m2]'hl2).pid = zp at *
                    generalize (T2[m2]'hl2).state = zs at *
                    generalize (T2[m2]'hl2).code = zc at *
                    generalize (T[m]'hlm).pid = yp at *
                    generalize (T[m]'hlm).state = ys at *
                    generalize (T[m]'hlm).code = yc at *
                    have C43 := Lib.hid (fun (d : Later wr) => signalled_ps (HP5.out.fr0 (hf6.out.then d.fr)) zp (by have := HLL.out.2; unfold wf64; omega))
                    rw [hsg] at C43
                    generalize q.2 = sg at *
                    generalize q2.2 = nx at *
                    have ly0 := Later.cell y0
                    have ly6 := Later.cell y6
                    have ly7 := Later.cell y7
                    have lz0 := Later.cell z0
                    have lz6 := Later.cell z6
                    have lz7 := Later.cell z7
                    have ls0 := Later.cell s0
                    clear hce hcf hr hsg hss e0 e6 e7 f0 f6 f7 es hfacts hq hq2 hqx hqx2 hqk hkk y0 y6 y7 z0 z6 z7 s0
                    by_cases hpid : zp = yp
                    · obtain ⟨k1, k2, k3, k4⟩ := HFC.out hpid
                      have b0 : (zp != yp) = false := by simpa using hpid
                      have b5 : decide (zs < ys) = false := decide_eq_false (by omega)
                      have hs : ((sg == 9) = true ∧ (nx != 9) = false ∧ (sg == 15) = false) ∨ ((sg == 9) = false ∧ (sg == 15) = true ∧ (nx == 0) = false) ∨ ((sg == 9) = false ∧ (sg == 15) = false) := by
                        by_cases h9 : sg = 9
                        · left; refine ⟨by simpa using h9, by simpa using k1 h9, by rw [h9]; rfl⟩
                        · by_cases h15 : sg = 15
                          · right; left; exact ⟨by simpa using h9, by simpa using h15, by simpa using k2 h15⟩
                          · right; right; exact ⟨by simpa using h9, by simpa using h15⟩
                      have hg : ((ys == 2) = true ∧ (zc != yc) = false ∧ (nx != sg) = false) ∨ (ys == 2) = false := by
                        by_cases h2 : ys = 2
                        · left; exact ⟨by simpa using h2, by simpa using (k4 h2).1, by simpa using (k4 h2).2⟩
                        · right; simpa using h2
                      clear k1 k2 k3 k4 HFC hpid
                      rcases hs with ⟨c1, c2, c3⟩ | ⟨c1, c2, c3⟩ | ⟨c1, c2⟩ <;> rcases hg with ⟨d1, d2, d3⟩ | d1
                      all_goals (
                        go_wp2_with fail
                        refine wp_region_later wr (by kernel_rfl) (by kernel_rfl) (Fr.refl _ _) ?_
                        repeat (go_big_quiet_step (fail))
                        refine wpQuiet_nil ?_
                        rintro _ ⟨d, rfl⟩
                        have z0 := lz0 d
                        go_wp2_with fail
                        refine (C43.out d).mono ?_
                        rintro e w7 ⟨rfl, rfl⟩
                        clear z0
                        go_wp2_with fail
                        refine wp_region_later wr (by kernel_rfl) (by kernel_rfl) d.fr ?_
                        repeat (go_big_quiet_step (fail))
                        refine wpQuiet_nil ?_
                        rintro _ ⟨d2, rfl⟩
                        go_wp2_with fail
                        refine wp_region_later wr (by kernel_rfl) (by kernel_rfl) d2.fr ?_
                        repeat (go_big_quiet_step (fail))
                        refine wpQuiet_nil ?_
                        rintro _ ⟨d3, rfl⟩
                        go_wp2
                        go_roundw
                        case rel => exact ⟨m2 + 1, by omega, by go_num, Lib.hid (hf6.out.then d3.fr)⟩
                        case measure => simp [intOf]; omega)
                    · have b0 : (zp != yp) = true := by simpa using hpid
                      clear HFC hpid
                      go_wp2_with fail
                      refine wp_region_later wr (by kernel_rfl) (by kernel_rfl) (Fr.refl _ _) ?_
                      repeat (go_big_quiet_step (fail))
                      refine wpQuiet_nil ?_
                      rintro _ ⟨d, rfl⟩
                      go_wp2
                      go_roundw
                      case rel => exact ⟨m2 + 1, by omega, by go_num, Lib.hid (hf6.out.then d.fr)⟩
                      case measure => simp [intOf]; omega
                  · obtain rfl : m2 = T2.length := by omega
                    go_wp2
                    go_roundw
                    case rel => exact ⟨m + 1, by omega, by go_num, hf6⟩
                    case measure => simp [intOf]; omega
              · obtain rfl : m = T.length := by omega
                have HPF := Lib.hid (HP5.out.fr0 hf5.out)
                have HFF := Lib.hid (HF5.out.then (hf5.out.mono (fun _ _ h => h.elim)))
                have HL5 := Lib.hid (show l5 ≤ ((n + 1 : Nat) : Int) from by have := HLL.out.2; omega)
                go_wp2
                go_roundw
                case rel => exact ⟨n + 1, K5, l5, by omega, by go_num, HPF.out, HL5.out, HFF.out⟩
                case measure => simp [intOf]; omega
      · obtain rfl : n = L.length := by omega
        have HF := Lib.hid hF
        clear hP hF
        go_wp2_with fail
        refine (live33_any _).mono ?_
        rintro e wL ⟨rfl, hfL⟩
        go_wp2
        go_ret
        exact ⟨rfl, HF.out.then (hfL.mono (fun _ _ h => h.elim))⟩

end Go.Proofs.Ytomoomopodihhaa
