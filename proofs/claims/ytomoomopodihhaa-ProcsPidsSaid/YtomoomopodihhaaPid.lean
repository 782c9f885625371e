/-
  ProcsPids, walked.
-/
import Derived.Test.YtomoomopodihhaaGn
namespace Go.Proofs.Ytomoomopodihhaa
open Go.RowKit Go.Maps

/-- Between two rounds of 'ProcsPids'. -/
def PidRel (w : World) (L : List OpP) (t : Nat) (vl va vi : Value) (wr : World) : Prop :=
  ∃ (n : Nat) (K : List (TaskD × Int)) (last : Int) (TL : List TaskD), n ≤ L.length ∧ vi = .int .i64 n ∧ vl = .int .i64 last ∧ PS wr t (fun i => w.heap.size ≤ i ∧ va.ownBlock ≠ some i) K last ∧ last ≤ n ∧ AllI K last TL ∧ wr.ownsRow w.heap.size 61 8 va TL.length (TL.flatMap TaskD.cells) ∧ (∀ x ∈ TL, ∃ o ∈ L, o.x = x) ∧ Fr (fun i => w.heap.size ≤ i) w wr

theorem spn_ok {K : List (TaskD × Int)} {last : Int} {x : TaskD} (h : (spnN K last x).2 = 0) : spnN K last x = (last + 1, 0) := by
  unfold spnN at h ⊢
  split at h
  · cases h
  · rename_i h1
    rw [if_neg h1]
    split at h
    · cases h
    · rename_i h2
      rw [if_neg h2]

theorem PS.spare {w W : World} {t : Nat} {K : List (TaskD × Int)} {last : Int} {B : Nat → Prop} (h : PS w t B K last) (hf : Fr (fun _ => False) w W) : PS W t (fun i => (B i ∧ i < w.heap.size) ∨ W.heap.size ≤ i) K last := by
  obtain ⟨X, h1, h2, h3⟩ := h
  exact ⟨X, h1.fr0 hf, fun i hi => Or.inl ⟨h2 i hi, h1.lt hi⟩, fun i hi => Or.inr hi⟩
theorem PS.mono {w : World} {t : Nat} {K : List (TaskD × Int)} {last : Int} {B B' : Nat → Prop} (h : PS w t B K last) (hb : ∀ i, B i → B' i) (hs : ∀ i, w.heap.size ≤ i → B' i) : PS w t B' K last := by
  obtain ⟨X, h1, h2, h3⟩ := h
  exact ⟨X, h1, fun i hi => hb i (h2 i hi), hs⟩

/-- The row of all tasks, one more. -/
theorem PS.pushed {w wr w1 w9 : World} {t : Nat} {K : List (TaskD × Int)} {last : Int} {va va' : Value} (h : PS wr t (fun i => w.heap.size ≤ i ∧ va.ownBlock ≠ some i) K last) (hf : Fr (fun _ => False) wr w1) (hg : w1.grownBy w9 va.ownBlock) (hat : va'.ownBlock = va.ownBlock ∨ va'.ownBlock = some w1.heap.size) (hlt : ∀ g, va'.ownBlock = some g → g < w9.heap.size) :
    PS w9 t (fun i => w.heap.size ≤ i ∧ va'.ownBlock ≠ some i) K last := by
  obtain ⟨X, h1, h2, h3⟩ := h
  have h4 := h1.fr0 hf
  have hF : Fr (fun i => va.ownBlock = some i) w1 w9 := Fr.of_grown hg (fun k hk => hk)
  refine ⟨X, h4.fr hF (fun i hi e => (h2 i hi).2 e), fun i hi => ⟨(h2 i hi).1, fun e => ?_⟩, fun i hi => ⟨?_, fun e => ?_⟩⟩
  · rcases hat with h | h
    · rw [h] at e; exact (h2 i hi).2 e
    · rw [h] at e
      have := h4.lt hi
      cases e
      omega
  · exact (h3 i (Nat.le_trans (Nat.le_trans hf.size hF.size) hi)).1
  · have := hlt i e
    omega

set_option maxRecDepth 20000 in
set_option maxHeartbeats 8000000 in
theorem procsPids10_any (w : World) (A : Option Addr) (cap : Nat) (L : List OpP) (h : OpsP w w.heap.size A L) (hl : L.length ≤ maxLen) :
    Calls Try.prog 10 #[.slice A L.length cap] w fun e w' => e = .returned (.bool true) ∧ Fr (fun i => w.heap.size ≤ i) w w' := by
  have HO := Lib.hid h
  obtain ⟨i0, gi, gz0, gz1, gz2⟩ := info_parts info61
  have C32 := small32_any w A cap L h hl 60
  obtain ⟨sm, hsm⟩ : ∃ sm, smallP L 60 = sm := ⟨_, rfl⟩
  rw [hsm] at C32
  have C32 := Lib.hid C32
  have HSM := Lib.hid hsm
  unfold maxLen at hl
  clear h hsm
  go_enter Try.func10, Try.ntmps10
  go_wp2_with fail
  refine C32.out.mono ?_
  rintro e w1 ⟨rfl, hf1⟩
  have HF1 := Lib.hid (hf1.mono (S' := fun i => w.heap.size ≤ i) (fun _ _ h => h.elim))
  clear hf1
  cases sm with
  | false =>
    go_wp2_with fail
    refine (live33_any _).mono ?_
    rintro e w2 ⟨rfl, hf2⟩
    go_wp2
    go_ret
    exact ⟨rfl, HF1.out.then (hf2.mono (fun _ _ h => h.elim))⟩
  | true =>
    obtain ⟨hs3, hL60⟩ := smallP_true HSM.out
    have HS3 := Lib.hid hs3
    have hL60 : L.length ≤ 60 := by omega
    have HN := Lib.hid (new_ps w1)
    clear hs3
    go_wp2_with fail
    refine HN.out.mono ?_
    rintro e w2 ⟨t, rfl, hps, hf2⟩
    have hsz1 := HF1.out.size
    have HR := Lib.hid (show PidRel w L t (.int .i64 0) (.slice none 0 0) (.int .i64 (0 : Nat)) w2 from ⟨0, [], 0, [], Nat.zero_le _, rfl, rfl, (by
      obtain ⟨X, h1, h2, h3⟩ := hps
      exact ⟨X, h1, fun i hi => ⟨Nat.le_trans hsz1 (h2 i hi), fun e => by cases e⟩, fun i hi => ⟨Nat.le_trans hsz1 (h3 i hi), fun e => by cases e⟩⟩), by omega, ⟨rfl, fun p hp => by cases hp⟩, World.ownsRow_nil _ _ _ _, (fun x hx => by cases hx), HF1.out.then (hf2.mono (fun _ _ h => h.elim))⟩)
    clear hps hf2
    go_wp2_with fail
    go_loopw [4, 5, 6] (fun vl va vi wr => PidRel w L t vl va vi wr) (fun _ _ vi _ => L.length - (intOf vi).toNat)
    case atStart => exact HR.out
    case round =>
      obtain ⟨n, K, last, TL, hn, rfl, rfl, hP, hla, hA, hrow, hS, hF⟩ := hrel
      obtain ⟨A4, cap4, rfl⟩ := row_shape hrow
      by_cases hlt : n < L.length
      · have hlo := hP.ok.2.2.1
        have hTLl := hA.1
        obtain ⟨b, off, rfl, hc⟩ := HO.out.el hF hlt
        have HOKF := Lib.hid (fun (W : World) (B : Nat → Prop) (hW : Fr (fun i => w.heap.size ≤ i) w W) (hB : ∀ i, B i → w.heap.size ≤ i) => HO.out.op hW HS3.out hB (List.getElem_mem hlt))
        have HME := Lib.hid (List.getElem_mem hlt)
        have HALL := Lib.hid (fun h0 => all_step (o := L[n]'hlt) hP.ok hA h0)
        have HALS := Lib.hid (fun h0 => all_spawn hP.ok hA (L[n]'hlt).x h0)
        have HLL := Lib.hid (doesL_le (K := K) (last := last) (o := L[n]'hlt))
        have HDL := Lib.hid (fun h0 => show doesL K last (L[n]'hlt) = last from by unfold doesL; rw [if_neg h0])
        generalize (L[n]'hlt) = o at *
        obtain ⟨do_, pid, nn, xp, xj, xe, xs, xr, xc, xn, xt, xo⟩ := o
        obtain ⟨A', cap', hv⟩ := (HOKF.out wr (fun _ => False) hF (fun _ h => h.elim)).cor.ints.sh
        have hv : xc = .slice A' xn.length cap' := hv
        subst hv
        obtain ⟨c0, c1, c2, c3, c4, c5, c6, c7, c8, c9, c10⟩ := ar11 (off := off + n * 11) hc
        have hfa : Fr (fun _ => False) wr (wr.alloc (.cells #[.int .i64 do_, .int .i64 pid, .int .i64 nn, .int .i64 xp, .int .i64 xj, .int .i64 xe, .int .i64 xs, .int .i64 xr, .slice A' xn.length cap', .int .i64 xt, .int .i64 xo] 63)) := (Fr.refl _ wr).alloc _
        have HBX := Lib.hid (Blk.new wr 63 #[.int .i64 do_, .int .i64 pid, .int .i64 nn, .int .i64 xp, .int .i64 xj, .int .i64 xe, .int .i64 xs, .int .i64 xr, .slice A' xn.length cap', .int .i64 xt, .int .i64 xo])
        have HFA := Lib.hid (hF.then (hfa.mono (fun _ _ h => h.elim)))
        have HP := Lib.hid hP
        have HA := Lib.hid hA
        have HROW := Lib.hid (ownsRow_fr hrow hfa (fun _ _ h => h))
        have HS := Lib.hid hS
        have HFA0 := Lib.hid hfa
        have hsw : w.heap.size ≤ wr.heap.size := hF.size
        obtain ⟨k0, k1, k2, k3, k4, k5, k6, k7, k8, k9, k10⟩ := bx11 HBX.out
        clear hc hP hA hrow hS hF hfa
        by_cases h0 : do_ = 0
        · subst h0
          have HOK := Lib.hid (HOKF.out _ (fun i => ((w.heap.size ≤ i ∧ (Value.slice A4 TL.length cap4).ownBlock ≠ some i) ∧ i < wr.heap.size) ∨ (wr.alloc (.cells #[.int .i64 0, .int .i64 pid, .int .i64 nn, .int .i64 xp, .int .i64 xj, .int .i64 xe, .int .i64 xs, .int .i64 xr, .slice A' xn.length cap', .int .i64 xt, .int .i64 xo] 63)).heap.size ≤ i) HFA.out (fun i hi => by
            rcases hi with hi | hi
            · exact hi.1.1
            · rw [World.size_alloc] at hi; omega))
          by_cases hr : (spnN K last ⟨xp, xj, xe, xs, xr, .slice A' xn.length cap', xn, xt, xo⟩).2 = 0
          · have C37 := Lib.hid (spawn_ps (HP.out.spare HFA0.out) (Fr.refl _ _) ⟨xp, xj, xe, xs, xr, .slice A' xn.length cap', xn, xt, xo⟩ HOK.out.cor (fun h0 g hg => Or.inl (HOK.out.low h0 g hg)) (by omega) _ (spn_ok hr) rfl rfl)
            have hK5 : spnL K last ⟨xp, xj, xe, xs, xr, .slice A' xn.length cap', xn, xt, xo⟩ = last + 1 := by unfold spnL; rw [if_pos hr]
            rw [hK5] at C37
            have HA5 := Lib.hid (HALS.out hr)
            have HS5 := Lib.hid (show ∀ x ∈ TL ++ [(⟨xp, xj, xe, xs, xr, .slice A' xn.length cap', xn, xt, xo⟩ : TaskD)], ∃ o ∈ L, o.x = x from fun x hx => by
              rcases List.mem_append.1 hx with hx | hx
              · exact HS.out x hx
              · rw [List.mem_singleton] at hx; subst hx
                exact ⟨_, HME.out, rfl⟩)
            have hones : ∀ u ∈ ([.int .i64 xp, .int .i64 xj, .int .i64 xe, .int .i64 xs, .int .i64 xr, .slice A' xn.length cap', .int .i64 xt, .int .i64 xo] : List Value), u.oneCell' = true := fun u hu => by
              simp only [List.mem_cons, List.not_mem_nil, or_false] at hu
              rcases hu with rfl | rfl | rfl | rfl | rfl | rfl | rfl | rfl <;> rfl
            clear hr hK5 HALL HALS HLL HDL HOKF HA HS
            simp only [TaskD.val] at C37
            go_wp2_with fail
            refine C37.out.mono ?_
            rintro e w4 ⟨rfl, hps4, hf4⟩
            clear c0 c1 c2 c3 c4 c5 c6 c7 c8 c9 c10 k0 k1 k2 k3 k4 k5 k6 k7 k8 k9 k10
            have hsz4 := hf4.size
            rw [World.size_alloc] at hsz4
            obtain ⟨k3, k4, k5, k6, k7, k8, k9, k10⟩ := bx8 (HBX.out.fr hf4 (by rw [World.size_alloc]; omega))
            have hrow4 := ownsRow_fr HROW.out hf4 (fun k hk hi => by
              rcases hi with hi | hi
              · exact hi.1.2 hk
              · have := (HROW.out.lt k hk).2; omega)
            have hp4 := hps4.mono (B' := fun i => w.heap.size ≤ i ∧ (Value.slice A4 TL.length cap4).ownBlock ≠ some i) (fun i hi => by
              rcases hi with hi | hi
              · exact hi.1
              · exact ⟨by rw [World.size_alloc] at hi; omega, fun e => by have := (HROW.out.lt i e).2; omega⟩) (fun i hi => ⟨by omega, fun e => by have := (HROW.out.lt i e).2; rw [World.size_alloc] at this; omega⟩)
            have HF4 := Lib.hid (HFA.out.then (hf4.mono (S' := fun i => w.heap.size ≤ i) (fun i _ hi => by
              rcases hi with hi | hi
              · exact hi.1.1
              · rw [World.size_alloc] at hi; omega)))
            obtain ⟨TL5, hT5⟩ : ∃ T5, T5 = TL ++ [(⟨xp, xj, xe, xs, xr, .slice A' xn.length cap', xn, xt, xo⟩ : TaskD)] := ⟨_, rfl⟩
            rw [← hT5] at HA5 HS5
            have HLE := Lib.hid (show TL.length + 1 = TL5.length by rw [hT5]; simp)
            have HFM := Lib.hid (show TL.flatMap TaskD.cells ++ [.int .i64 xp, .int .i64 xj, .int .i64 xe, .int .i64 xs, .int .i64 xr, .slice A' xn.length cap', .int .i64 xt, .int .i64 xo] = TL5.flatMap TaskD.cells by rw [hT5, List.flatMap_append, List.flatMap_singleton]; rfl)
            have HP4 := Lib.hid hp4
            have hTL60 : TL.length ≤ 60 := by omega
            clear hf4 hps4 hp4 hT5
            go_wp2_with (at_builtin; refine wpList_app _ rfl _ _ 56 rfl w.heap.size 61 i0 (.agg #[.int .i64 0, .int .i64 0, .int .i64 0, .int .i64 0, .int .i64 0, .slice none 0 0, .int .i64 0, .int .i64 0]) 8 80 Try.underlying56 gi gz0 gz1 gz2 rfl (by decide) _ _ _ rfl (hrow4.alloc _) (some ⟨w4.heap.size, 0, none⟩) 1 1 [.int .i64 xp, .int .i64 xj, .int .i64 xe, .int .i64 xs, .int .i64 xr, .slice A' xn.length cap', .int .i64 xt, .int .i64 xo] rfl (NewsOk.block (Blk.new w4 61 #[.int .i64 xp, .int .i64 xj, .int .i64 xe, .int .i64 xs, .int .i64 xr, .slice A' xn.length cap', .int .i64 xt, .int .i64 xo]) rfl hones) (by unfold maxLen; omega) (by omega) (by rw [World.size_alloc]; omega) TL5.length HLE.out ?_; intro A5 cap5 w5 hown5 hgrow5 hat5)
            clear k3 k4 k5 k6 k7 k8 k9 k10
            obtain ⟨K5, hK5⟩ : ∃ K5, K5 = spnK K last ⟨xp, xj, xe, xs, xr, .slice A' xn.length cap', xn, xt, xo⟩ := ⟨_, rfl⟩
            obtain ⟨l5, hl5⟩ : ∃ l5, l5 = last + 1 := ⟨_, rfl⟩
            rw [← hl5] at HA5 HP4 ⊢
            rw [← hK5] at HA5 HP4
            have hfa4 : Fr (fun _ => False) w4 (w4.alloc (.cells #[.int .i64 xp, .int .i64 xj, .int .i64 xe, .int .i64 xs, .int .i64 xr, .slice A' xn.length cap', .int .i64 xt, .int .i64 xo] 61)) := (Fr.refl _ w4).alloc _
            have HP5 := Lib.hid (HP4.out.pushed hfa4 hgrow5 hat5 (fun g hg => (hown5.lt g hg).2))
            have hF5 := (HF4.out.then (hfa4.mono (fun _ _ h => h.elim))).then (Fr.of_grown (S := fun i => w.heap.size ≤ i) hgrow5 (fun k hk => (hrow4.lt k hk).1))
            have HF5 := Lib.hid hF5
            have HL5 := Lib.hid (show l5 ≤ ((n + 1 : Nat) : Int) from by omega)
            rw [HFM.out] at hown5
            have HR5 := Lib.hid hown5
            have C36 := Lib.hid (list_ps HP5.out)
            clear hown5 hgrow5 hat5 hF5 hfa4 hrow4 hl5 hK5 hTLl hones HP HROW HFA0 HFA HBX HFM HLE HP4 HF4 hTL60
            refine C36.out.mono ?_
            rintro e w6 ⟨vb, T2, rfl, hTb, hTK2, hfb⟩
            obtain ⟨Ab, capb, rfl⟩ := row_shape hTb.row
            have HLB := Lib.hid hTb.list
            have HP6 := Lib.hid (HP5.out.fr0 hfb)
            have HF6 := Lib.hid (HF5.out.then (hfb.mono (fun _ _ h => h.elim)))
            have HR6 := Lib.hid (ownsRow_fr HR5.out hfb (fun _ _ h => h))
            have HTK2 := Lib.hid hTK2
            have hT2 : T2.length ≤ 256 := by
              have h1 := congrArg List.length hTK2
              have h2 := HP6.out.ok.2.2.2
              simp only [List.length_map] at h1
              omega
            clear hTb hTK2 hfb
            go_wp2_with fail
            go_loopw [11] (fun j wk => ∃ m : Nat, m ≤ T2.length ∧ j = .int .i64 m ∧ Hid (Fr (fun _ => False) w6 wk)) (fun j _ => T2.length - (intOf j).toNat)
            case atStart => exact ⟨0, Nat.zero_le _, rfl, Lib.hid (Fr.refl _ _)⟩
            case round =>
              obtain ⟨m, hm, rfl, hf7⟩ := hrel
              by_cases hlm : m < T2.length
              · have hL2 := HLB.out.fr0 hf7.out
                obtain ⟨gb, cb, hv, hsh2, z0, z1, z2, z3, z4, z5, z6, z7⟩ := hL2.el hlm
                cases hv
                obtain ⟨q, hq, hqx, hmk, hqk⟩ := list_mem HTK2.out hlm
                have hr := HP6.out.ok.2.1 q hq
                obtain ⟨y, hy1, hy2⟩ := HA5.out.2 q hq
                obtain ⟨pk, hpk⟩ : ∃ pk : Nat, q.1.pid = (pk : Int) + 1 := ⟨(q.1.pid - 1).toNat, by omega⟩
                have e1 : (q.1.pid - 1).toNat = pk := by omega
                rw [e1] at hy1
                have hpkl : pk < TL5.length := (List.getElem?_eq_some_iff.1 hy1).1
                have hye : TL5[pk]'hpkl = y := (List.getElem?_eq_some_iff.1 hy1).2
                have hxy : TaskD.abs { y with pid := q.1.pid, state := q.1.state, code := q.1.code } = (T2[m]'hlm).abs := by
                  rw [← hqx]
                  exact hy2.symm
                obtain ⟨oo, hoo, hox⟩ := HS5.out y (by rw [← hye]; exact List.getElem_mem hpkl)
                have hFw := HF6.out.then (hf7.out.mono (S' := fun i => w.heap.size ≤ i) (fun _ _ h => h.elim))
                have hcy : CoresOk wr y.cv y.ns := by rw [← hox]; exact (HO.out.cor oo hoo).ok rfl hFw (HS3.out oo hoo)
                have hL1 : ListAt wr (.slice A5 TL5.length cap5) TL5 := ⟨ownsRow_base_a' (ownsRow_fr HR6.out hf7.out (fun _ _ h => h)) (Nat.zero_le _), fun x hx => by
                  obtain ⟨o2, ho2, ho3⟩ := HS5.out x hx
                  rw [← ho3]
                  exact (HO.out.cor o2 ho2).ok rfl hFw (HS3.out o2 ho2)⟩
                obtain ⟨ga, ca, hv, hsh, y0, y1, y2, y3, y4, y5, y6, y7⟩ := hL1.el hpkl
                cases hv
                have hcz := hL2.cor _ (List.getElem_mem hlm)
                have e2 : q.1.pid = (T2[m]'hlm).pid := by rw [hqx]; rfl
                have e3 : q.1.state = (T2[m]'hlm).state := by rw [hqx]; rfl
                have e4 : q.1.code = (T2[m]'hlm).code := by rw [hqx]; rfl
                rw [e2, e3, e4] at hxy
                rw [e2] at hpk hr
                have hprev : ∀ hm0 : 0 < m, ∃ pp : Int, wr.cell? ⟨gb, (m - 1) * 8, none⟩ = some (.int .i64 pp) ∧ pp < (T2[m]'hlm).pid := fun hm0 => by
                  have hl2 : m - 1 < T2.length := by omega
                  obtain ⟨gb', cb', hv, _, u0, _⟩ := hL2.el hl2
                  cases hv
                  refine ⟨_, u0, ?_⟩
                  obtain ⟨q', hq', hqx', hmk', hqk'⟩ := list_mem HTK2.out hl2
                  have h1 := List.pairwise_iff_getElem.1 HP6.out.ok.1 (m - 1) m hmk' hmk (by omega)
                  rw [← hqk, ← hqk', hqx, hqx'] at h1
                  exact h1
                rw [hye] at hsh y0 y1 y2 y3 y4 y5 y6 y7
                clear hL1 hL2 hq hqx hqk e1 e2 e3 e4 hy1 hy2 hye hox hoo hFw
                generalize (T2[m]'hlm) = z at *
                obtain ⟨p0, p1, p2, p3, p4, pc, pn, p6, p7⟩ := y
                obtain ⟨q0, q1, q2, q3, q4, qc, qn, q6, q7⟩ := z
                have hpk : q0 = (pk : Int) + 1 := hpk
                subst hpk
                obtain ⟨Ay, cy, hv⟩ := hsh
                have hv : pc = .slice Ay pn.length cy := hv
                subst hv
                obtain ⟨Az, cz, hv⟩ := hsh2
                have hv : qc = .slice Az qn.length cz := hv
                subst hv
                simp only at y0 y1 y2 y3 y4 y5 y6 y7 z0 z1 z2 z3 z4 z5 z6 z7 hr hprev
                have hp60 : (pk : Int) + 1 ≤ 100 := by have := hr.2.1; have := HL5.out; omega
                have b0 : decide ((pk : Int) + 1 < 1) = false := decide_eq_false (by omega)
                have b1 : decide (l5 < (pk : Int) + 1) = false := decide_eq_false (by omega)
                have ly0 := Later.cell y0
                have ly1 := Later.cell y1
                have ly2 := Later.cell y2
                have ly3 := Later.cell y3
                have ly4 := Later.cell y4
                have ly5 := Later.cell y5
                have ly6 := Later.cell y6
                have ly7 := Later.cell y7
                have lz0 := Later.cell z0
                have lz1 := Later.cell z1
                have lz2 := Later.cell z2
                have lz3 := Later.cell z3
                have lz4 := Later.cell z4
                have lz5 := Later.cell z5
                have lz6 := Later.cell z6
                have lz7 := Later.cell z7
                have HPV := Lib.hid hprev
                have hfx : Fr (fun _ => False) wr (wr.alloc (.cells #[.int .i64 ((pk : Int) + 1), .int .i64 p1, .int .i64 p2, .int .i64 p3, .int .i64 p4, .slice Ay pn.length cy, .int .i64 q6, .int .i64 q7] 61)) := (Fr.refl _ wr).alloc _
                have HCY := Lib.hid hcy
                have HCZ := Lib.hid hcz
                have HXY := Lib.hid hxy
                clear hr hprev hcy hcz hxy hfx
                have hrest : ∀ d : Later wr, Hid (∀ d2 : Later (d.val.alloc (.cells #[.int .i64 ((pk : Int) + 1), .int .i64 p1, .int .i64 p2, .int .i64 p3, .int .i64 p4, .slice Ay pn.length cy, .int .i64 q6, .int .i64 q7] 61)), Calls Try.prog 38 #[TaskD.val ⟨(pk : Int) + 1, p1, p2, p3, p4, .slice Ay pn.length cy, pn, q6, q7⟩, TaskD.val ⟨(pk : Int) + 1, q1, q2, q3, q4, .slice Az qn.length cz, qn, q6, q7⟩] d2.val fun e w' => e = .returned (.bool true) ∧ Fr (fun _ => False) d2.val w') := fun d => Lib.hid (fun d2 => one_eq _ _ _ HXY.out (((HCY.out.fr0 d.fr).fr0 ((Fr.refl _ _).alloc _)).fr0 d2.fr) (((HCZ.out.fr0 d.fr).fr0 ((Fr.refl _ _).alloc _)).fr0 d2.fr))
                simp only [TaskD.val] at hrest
                have HREST := Lib.hid hrest
                clear hrest
                have hm0 : (decide ((0 : Int) < (m : Int)) = false ∧ decide (0 < m) = false) ∨ ∃ m' pp, m = m' + 1 ∧ wr.cell? ⟨gb, m' * 8, none⟩ = some (.int .i64 pp) ∧ pp < (pk : Int) + 1 := by
                  by_cases h0 : 0 < m
                  · obtain ⟨pp, h1, h2⟩ := HPV.out h0
                    exact Or.inr ⟨m - 1, pp, by omega, h1, h2⟩
                  · exact Or.inl ⟨decide_eq_false (by omega), decide_eq_false h0⟩
                rcases hm0 with ⟨b2, b3⟩ | ⟨m', pp, rfl, lp0', hlp⟩
                · go_wp2_with fail
                  clear y0 y1 y2 y3 y4 y5 y6 y7 z0 z1 z2 z3 z4 z5 z6 z7
                  refine wp_region_later wr (by kernel_rfl) (by kernel_rfl) (Fr.refl _ _) ?_
                  repeat (go_big_quiet_step (fail))
                  refine wpQuiet_nil ?_
                  rintro _ ⟨d, rfl⟩
                  have hc1 := (HREST.out d).out
                  clear HREST
                  have y0 := ly0 d
                  have y1 := ly1 d
                  have y2 := ly2 d
                  have y3 := ly3 d
                  have y4 := ly4 d
                  have y5 := ly5 d
                  have y6 := ly6 d
                  have y7 := ly7 d
                  have z0 := lz0 d
                  have z6 := lz6 d
                  have z7 := lz7 d
                  have zo0 : ∀ o, (d.val.alloc o).cell? ⟨gb, (m) * 8, none⟩ = some (.int .i64 ((pk : Int) + 1)) := fun o => lz0 ⟨_, d.fr.alloc o⟩
                  have zo6 : ∀ o, (d.val.alloc o).cell? ⟨gb, (m) * 8 + 6, none⟩ = some (.int .i64 q6) := fun o => lz6 ⟨_, d.fr.alloc o⟩
                  have zo7 : ∀ o, (d.val.alloc o).cell? ⟨gb, (m) * 8 + 7, none⟩ = some (.int .i64 q7) := fun o => lz7 ⟨_, d.fr.alloc o⟩
                  go_wp2_with fail
                  clear y0 y1 y2 y3 y4 y5 y6 y7 z0 z6 z7 zo0 zo6 zo7 ly0 ly1 ly2 ly3 ly4 ly5 ly6 ly7
                  obtain ⟨v0, v1, v2, v3, v4, v5, v6, v7⟩ := tc (Blk.new d.val 61 #[.int .i64 ((pk : Int) + 1), .int .i64 p1, .int .i64 p2, .int .i64 p3, .int .i64 p4, .slice Ay pn.length cy, .int .i64 q6, .int .i64 q7])
                  have lv0 := Later.cell v0
                  have lv1 := Later.cell v1
                  have lv2 := Later.cell v2
                  have lv3 := Later.cell v3
                  have lv4 := Later.cell v4
                  have lv5 := Later.cell v5
                  have lv6 := Later.cell v6
                  have lv7 := Later.cell v7
                  have s0 : (d.val.alloc (.cells #[.int .i64 ((pk : Int) + 1), .int .i64 p1, .int .i64 p2, .int .i64 p3, .int .i64 p4, .slice Ay pn.length cy, .int .i64 q6, .int .i64 q7] 61)).cell? ⟨gb, (m) * 8, none⟩ = some (.int .i64 ((pk : Int) + 1)) := lz0 ⟨_, d.fr.alloc _⟩
                  have ls0 := Later.cell s0
                  have s1 : (d.val.alloc (.cells #[.int .i64 ((pk : Int) + 1), .int .i64 p1, .int .i64 p2, .int .i64 p3, .int .i64 p4, .slice Ay pn.length cy, .int .i64 q6, .int .i64 q7] 61)).cell? ⟨gb, (m) * 8 + 1, none⟩ = some (.int .i64 q1) := lz1 ⟨_, d.fr.alloc _⟩
                  have ls1 := Later.cell s1
                  have s2 : (d.val.alloc (.cells #[.int .i64 ((pk : Int) + 1), .int .i64 p1, .int .i64 p2, .int .i64 p3, .int .i64 p4, .slice Ay pn.length cy, .int .i64 q6, .int .i64 q7] 61)).cell? ⟨gb, (m) * 8 + 2, none⟩ = some (.int .i64 q2) := lz2 ⟨_, d.fr.alloc _⟩
                  have ls2 := Later.cell s2
                  have s3 : (d.val.alloc (.cells #[.int .i64 ((pk : Int) + 1), .int .i64 p1, .int .i64 p2, .int .i64 p3, .int .i64 p4, .slice Ay pn.length cy, .int .i64 q6, .int .i64 q7] 61)).cell? ⟨gb, (m) * 8 + 3, none⟩ = some (.int .i64 q3) := lz3 ⟨_, d.fr.alloc _⟩
                  have ls3 := Later.cell s3
                  have s4 : (d.val.alloc (.cells #[.int .i64 ((pk : Int) + 1), .int .i64 p1, .int .i64 p2, .int .i64 p3, .int .i64 p4, .slice Ay pn.length cy, .int .i64 q6, .int .i64 q7] 61)).cell? ⟨gb, (m) * 8 + 4, none⟩ = some (.int .i64 q4) := lz4 ⟨_, d.fr.alloc _⟩
                  have ls4 := Later.cell s4
                  have s5 : (d.val.alloc (.cells #[.int .i64 ((pk : Int) + 1), .int .i64 p1, .int .i64 p2, .int .i64 p3, .int .i64 p4, .slice Ay pn.length cy, .int .i64 q6, .int .i64 q7] 61)).cell? ⟨gb, (m) * 8 + 5, none⟩ = some (.slice Az qn.length cz) := lz5 ⟨_, d.fr.alloc _⟩
                  have ls5 := Later.cell s5
                  have s6 : (d.val.alloc (.cells #[.int .i64 ((pk : Int) + 1), .int .i64 p1, .int .i64 p2, .int .i64 p3, .int .i64 p4, .slice Ay pn.length cy, .int .i64 q6, .int .i64 q7] 61)).cell? ⟨gb, (m) * 8 + 6, none⟩ = some (.int .i64 q6) := lz6 ⟨_, d.fr.alloc _⟩
                  have ls6 := Later.cell s6
                  have s7 : (d.val.alloc (.cells #[.int .i64 ((pk : Int) + 1), .int .i64 p1, .int .i64 p2, .int .i64 p3, .int .i64 p4, .slice Ay pn.length cy, .int .i64 q6, .int .i64 q7] 61)).cell? ⟨gb, (m) * 8 + 7, none⟩ = some (.int .i64 q7) := lz7 ⟨_, d.fr.alloc _⟩
                  have ls7 := Later.cell s7
                  clear v0 v1 v2 v3 v4 v5 v6 v7 s0 s1 s2 s3 s4 s5 s6 s7 lz0 lz1 lz2 lz3 lz4 lz5 lz6 lz7
                  refine wp_region_later (d.val.alloc (.cells #[.int .i64 ((pk : Int) + 1), .int .i64 p1, .int .i64 p2, .int .i64 p3, .int .i64 p4, .slice Ay pn.length cy, .int .i64 q6, .int .i64 q7] 61)) (by kernel_rfl) (by kernel_rfl) (Fr.refl _ _) ?_
                  repeat (go_big_quiet_step (first | (go_at_call 38; exact later_call (hc1 _))))
                  refine wpQuiet_nil ?_
                  rintro _ ⟨d2, rfl⟩
                  go_wp2
                  go_roundw
                  case rel => exact ⟨m + 1, by omega, by go_num, Lib.hid (((hf7.out.then d.fr).then ((Fr.refl _ d.val).alloc _)).then d2.fr)⟩
                  case measure => simp [intOf]; omega
                · have b2 : decide ((0 : Int) < ((m' + 1 : Nat) : Int)) = true := decide_eq_true (by omega)
                  have b3 : decide (0 < m' + 1) = true := decide_eq_true (by omega)
                  have b4 : decide ((pk : Int) + 1 ≤ pp) = false := decide_eq_false (by omega)
                  have lp0 := Later.cell lp0'
                  have hm1 : m' < T2.length := by omega
                  go_wp2_with fail
                  clear y0 y1 y2 y3 y4 y5 y6 y7 z0 z1 z2 z3 z4 z5 z6 z7 lp0'
                  refine wp_region_later wr (by kernel_rfl) (by kernel_rfl) (Fr.refl _ _) ?_
                  repeat (go_big_quiet_step (fail))
                  refine wpQuiet_nil ?_
                  rintro _ ⟨d, rfl⟩
                  have hc1 := (HREST.out d).out
                  clear HREST
                  have y0 := ly0 d
                  have y1 := ly1 d
                  have y2 := ly2 d
                  have y3 := ly3 d
                  have y4 := ly4 d
                  have y5 := ly5 d
                  have y6 := ly6 d
                  have y7 := ly7 d
                  have z0 := lz0 d
                  have z6 := lz6 d
                  have z7 := lz7 d
                  have zo0 : ∀ o, (d.val.alloc o).cell? ⟨gb, (m' + 1) * 8, none⟩ = some (.int .i64 ((pk : Int) + 1)) := fun o => lz0 ⟨_, d.fr.alloc o⟩
                  have zo6 : ∀ o, (d.val.alloc o).cell? ⟨gb, (m' + 1) * 8 + 6, none⟩ = some (.int .i64 q6) := fun o => lz6 ⟨_, d.fr.alloc o⟩
                  have zo7 : ∀ o, (d.val.alloc o).cell? ⟨gb, (m' + 1) * 8 + 7, none⟩ = some (.int .i64 q7) := fun o => lz7 ⟨_, d.fr.alloc o⟩
                  go_wp2_with fail
                  clear y0 y1 y2 y3 y4 y5 y6 y7 z0 z6 z7 zo0 zo6 zo7 ly0 ly1 ly2 ly3 ly4 ly5 ly6 ly7
                  obtain ⟨v0, v1, v2, v3, v4, v5, v6, v7⟩ := tc (Blk.new d.val 61 #[.int .i64 ((pk : Int) + 1), .int .i64 p1, .int .i64 p2, .int .i64 p3, .int .i64 p4, .slice Ay pn.length cy, .int .i64 q6, .int .i64 q7])
                  have lv0 := Later.cell v0
                  have lv1 := Later.cell v1
                  have lv2 := Later.cell v2
                  have lv3 := Later.cell v3
                  have lv4 := Later.cell v4
                  have lv5 := Later.cell v5
                  have lv6 := Later.cell v6
                  have lv7 := Later.cell v7
                  have s0 : (d.val.alloc (.cells #[.int .i64 ((pk : Int) + 1), .int .i64 p1, .int .i64 p2, .int .i64 p3, .int .i64 p4, .slice Ay pn.length cy, .int .i64 q6, .int .i64 q7] 61)).cell? ⟨gb, (m' + 1) * 8, none⟩ = some (.int .i64 ((pk : Int) + 1)) := lz0 ⟨_, d.fr.alloc _⟩
                  have ls0 := Later.cell s0
                  have s1 : (d.val.alloc (.cells #[.int .i64 ((pk : Int) + 1), .int .i64 p1, .int .i64 p2, .int .i64 p3, .int .i64 p4, .slice Ay pn.length cy, .int .i64 q6, .int .i64 q7] 61)).cell? ⟨gb, (m' + 1) * 8 + 1, none⟩ = some (.int .i64 q1) := lz1 ⟨_, d.fr.alloc _⟩
                  have ls1 := Later.cell s1
                  have s2 : (d.val.alloc (.cells #[.int .i64 ((pk : Int) + 1), .int .i64 p1, .int .i64 p2, .int .i64 p3, .int .i64 p4, .slice Ay pn.length cy, .int .i64 q6, .int .i64 q7] 61)).cell? ⟨gb, (m' + 1) * 8 + 2, none⟩ = some (.int .i64 q2) := lz2 ⟨_, d.fr.alloc _⟩
                  have ls2 := Later.cell s2
                  have s3 : (d.val.alloc (.cells #[.int .i64 ((pk : Int) + 1), .int .i64 p1, .int .i64 p2, .int .i64 p3, .int .i64 p4, .slice Ay pn.length cy, .int .i64 q6, .int .i64 q7] 61)).cell? ⟨gb, (m' + 1) * 8 + 3, none⟩ = some (.int .i64 q3) := lz3 ⟨_, d.fr.alloc _⟩
                  have ls3 := Later.cell s3
                  have s4 : (d.val.alloc (.cells #[.int .i64 ((pk : Int) + 1), .int .i64 p1, .int .i64 p2, .int .i64 p3, .int .i64 p4, .slice Ay pn.length cy, .int .i64 q6, .int .i64 q7] 61)).cell? ⟨gb, (m' + 1) * 8 + 4, none⟩ = some (.int .i64 q4) := lz4 ⟨_, d.fr.alloc _⟩
                  have ls4 := Later.cell s4
                  have s5 : (d.val.alloc (.cells #[.int .i64 ((pk : Int) + 1), .int .i64 p1, .int .i64 p2, .int .i64 p3, .int .i64 p4, .slice Ay pn.length cy, .int .i64 q6, .int .i64 q7] 61)).cell? ⟨gb, (m' + 1) * 8 + 5, none⟩ = some (.slice Az qn.length cz) := lz5 ⟨_, d.fr.alloc _⟩
                  have ls5 := Later.cell s5
                  have s6 : (d.val.alloc (.cells #[.int .i64 ((pk : Int) + 1), .int .i64 p1, .int .i64 p2, .int .i64 p3, .int .i64 p4, .slice Ay pn.length cy, .int .i64 q6, .int .i64 q7] 61)).cell? ⟨gb, (m' + 1) * 8 + 6, none⟩ = some (.int .i64 q6) := lz6 ⟨_, d.fr.alloc _⟩
                  have ls6 := Later.cell s6
                  have s7 : (d.val.alloc (.cells #[.int .i64 ((pk : Int) + 1), .int .i64 p1, .int .i64 p2, .int .i64 p3, .int .i64 p4, .slice Ay pn.length cy, .int .i64 q6, .int .i64 q7] 61)).cell? ⟨gb, (m' + 1) * 8 + 7, none⟩ = some (.int .i64 q7) := lz7 ⟨_, d.fr.alloc _⟩
                  have ls7 := Later.cell s7
                  clear v0 v1 v2 v3 v4 v5 v6 v7 s0 s1 s2 s3 s4 s5 s6 s7 lz0 lz1 lz2 lz3 lz4 lz5 lz6 lz7
                  refine wp_region_later (d.val.alloc (.cells #[.int .i64 ((pk : Int) + 1), .int .i64 p1, .int .i64 p2, .int .i64 p3, .int .i64 p4, .slice Ay pn.length cy, .int .i64 q6, .int .i64 q7] 61)) (by kernel_rfl) (by kernel_rfl) (Fr.refl _ _) ?_
                  repeat (go_big_quiet_step (first | (go_at_call 38; exact later_call (hc1 _))))
                  refine wpQuiet_nil ?_
                  rintro _ ⟨d2, rfl⟩
                  go_wp2
                  go_roundw
                  case rel => exact ⟨m' + 1 + 1, by omega, by go_num, Lib.hid (((hf7.out.then d.fr).then ((Fr.refl _ d.val).alloc _)).then d2.fr)⟩
                  case measure => simp [intOf]; omega
              · obtain rfl : m = T2.length := by omega
                have HPF := Lib.hid (HP6.out.fr0 hf7.out)
                have HFF := Lib.hid (HF6.out.then (hf7.out.mono (fun _ _ h => h.elim)))
                have HRF := Lib.hid (ownsRow_fr HR6.out hf7.out (fun _ _ h => h))
                go_wp2
                go_roundw
                case rel => exact ⟨n + 1, K5, l5, TL5, by omega, by go_num, rfl, HPF.out, HL5.out, HA5.out, HRF.out, HS5.out, HFF.out⟩
                case measure => simp [intOf]; omega

          · have hne : ((spnN K last ⟨xp, xj, xe, xs, xr, .slice A' xn.length cap', xn, xt, xo⟩).2 != 0) = true := by simpa using hr
            have hK : spnK K last ⟨xp, xj, xe, xs, xr, .slice A' xn.length cap', xn, xt, xo⟩ = K := by unfold spnK; rw [if_neg hr]
            have hLs : spnL K last ⟨xp, xj, xe, xs, xr, .slice A' xn.length cap', xn, xt, xo⟩ = last := by unfold spnL; rw [if_neg hr]
            have C37 := Lib.hid (spawn_ps (HP.out.spare HFA0.out) (Fr.refl _ _) ⟨xp, xj, xe, xs, xr, .slice A' xn.length cap', xn, xt, xo⟩ HOK.out.cor (fun h0 g hg => Or.inl (HOK.out.low h0 g hg)) (by omega) _ rfl hK hLs)
            generalize (spnN K last ⟨xp, xj, xe, xs, xr, .slice A' xn.length cap', xn, xt, xo⟩).1 = r1 at *
            generalize (spnN K last ⟨xp, xj, xe, xs, xr, .slice A' xn.length cap', xn, xt, xo⟩).2 = r2 at *
            clear hr hK hLs HALL HALS HLL HDL HOKF
            simp only [TaskD.val] at C37
            go_wp2_with fail
            refine C37.out.mono ?_
            rintro e w4 ⟨rfl, hps4, hf4⟩
            clear c0 c1 c2 c3 c4 c5 c6 c7 c8 c9 c10 k0 k1 k2 k3 k4 k5 k6 k7 k8 k9 k10
            have hsz4 := hf4.size
            rw [World.size_alloc] at hsz4
            have hrow4 := ownsRow_fr HROW.out hf4 (fun k hk hi => by
              rcases hi with hi | hi
              · exact hi.1.2 hk
              · have := (HROW.out.lt k hk).2; omega)
            have hp4 := hps4.mono (B' := fun i => w.heap.size ≤ i ∧ (Value.slice A4 TL.length cap4).ownBlock ≠ some i) (fun i hi => by
              rcases hi with hi | hi
              · exact hi.1
              · exact ⟨by rw [World.size_alloc] at hi; omega, fun e => by have := (HROW.out.lt i e).2; omega⟩) (fun i hi => ⟨by omega, fun e => by have := (HROW.out.lt i e).2; rw [World.size_alloc] at this; omega⟩)
            have HF4 := Lib.hid (HFA.out.then (hf4.mono (S' := fun i => w.heap.size ≤ i) (fun i _ hi => by
              rcases hi with hi | hi
              · exact hi.1.1
              · rw [World.size_alloc] at hi; omega)))
            have HP4 := Lib.hid hp4
            have HR4 := Lib.hid hrow4
            clear hps4 hf4 hp4 hrow4
            go_wp2
            go_roundw
            case rel => exact ⟨n + 1, K, last, TL, by omega, by go_num, rfl, HP4.out, by omega, HA.out, HR4.out, HS.out, HF4.out⟩
            case measure => simp [intOf]; omega
        · have b0 : (do_ == 0) = false := by simpa using h0
          have hfb : Fr (fun _ => False) (wr.alloc (.cells #[.int .i64 do_, .int .i64 pid, .int .i64 nn, .int .i64 xp, .int .i64 xj, .int .i64 xe, .int .i64 xs, .int .i64 xr, .slice A' xn.length cap', .int .i64 xt, .int .i64 xo] 63)) ((wr.alloc (.cells #[.int .i64 do_, .int .i64 pid, .int .i64 nn, .int .i64 xp, .int .i64 xj, .int .i64 xe, .int .i64 xs, .int .i64 xr, .slice A' xn.length cap', .int .i64 xt, .int .i64 xo] 63)).alloc (.cells #[.slice none 0 0, .slice none 0 0, .int .i64 0] 58)) := (Fr.refl _ _).alloc _
          have hF3 := HFA.out.then (hfb.mono (fun _ _ h => h.elim))
          have HA5 := Lib.hid (HALL.out h0)
          have C35 := Lib.hid (does35_any _ t _ 0 _ K last (HP.out.both HFA0.out) (fun i hi => Or.inr (by rw [World.size_alloc] at hi; omega)) (by omega) ⟨do_, pid, nn, xp, xj, xe, xs, xr, .slice A' xn.length cap', xn, xt, xo⟩ (HOKF.out _ _ hF3 (fun i hi => by
            rcases hi with hi | hi
            · exact hi.1.1
            · rw [World.size_alloc] at hi; omega)) (by omega))
          have hdl := HDL.out h0
          have HDL2 := Lib.hid hdl
          have HROW3 := Lib.hid (ownsRow_fr HROW.out hfb (fun _ _ h => h))
          have HF3 := Lib.hid hF3
          have hra := fun k hk => (HROW.out.lt k hk)
          have HRA := Lib.hid hra
          clear hfb hF3 hdl hra HALL HALS HLL HOKF HDL h0 HROW
          rw [World.size_alloc] at C35
          simp only [OpP.val] at C35
          go_wp2_with fail
          refine C35.out.mono ?_
          rintro e w5 ⟨b4, rfl, hd4, hf4⟩
          clear c0 c1 c2 c3 c4 c5 c6 c7 c8 c9 c10 k0 k1 k2 k3 k4 k5 k6 k7 k8 k9 k10
          rw [HDL2.out] at hd4
          have hsz4 := hf4.size
          rw [World.size_alloc, World.size_alloc] at hsz4
          have hrow5 := ownsRow_fr HROW3.out hf4 (fun k hk hi => by
            rcases hi with hi | hi
            · exact hi.1.2 hk
            · have := (HRA.out k hk).2; rw [World.size_alloc] at this; omega)
          have hps5 := hd4.ps (B' := fun i => w.heap.size ≤ i ∧ (Value.slice A4 TL.length cap4).ownBlock ≠ some i) (fun i hi => by
            rcases hi with hi | hi
            · exact hi.1
            · exact ⟨by omega, fun e => by have := (HRA.out i e).2; rw [World.size_alloc] at this; omega⟩) (fun i hi => ⟨by omega, fun e => by have := (HRA.out i e).2; rw [World.size_alloc] at this; omega⟩)
          have HF5 := Lib.hid (HF3.out.then (hf4.mono (S' := fun i => w.heap.size ≤ i) (fun i _ hi => by
            rcases hi with hi | hi
            · exact hi.1.1
            · omega)))
          have HP5 := Lib.hid hps5
          have HR5 := Lib.hid hrow5
          have HS5 := HS
          have HL5 := Lib.hid (show last ≤ ((n + 1 : Nat) : Int) from by omega)
          generalize doesK K last ⟨do_, pid, nn, xp, xj, xe, xs, xr, .slice A' xn.length cap', xn, xt, xo⟩ = K5 at *
          have C36 := Lib.hid (list_ps hps5)
          clear hd4 hf4 hps5 hrow5 hTLl HS HROW3 HF3 HRA HA HDL2 HP HFA0 HFA HBX
          go_wp2_with fail
          refine C36.out.mono ?_
          rintro e w6 ⟨vb, T2, rfl, hTb, hTK2, hfb⟩
          obtain ⟨Ab, capb, rfl⟩ := row_shape hTb.row
          have HLB := Lib.hid hTb.list
          have HP6 := Lib.hid (HP5.out.fr0 hfb)
          have HF6 := Lib.hid (HF5.out.then (hfb.mono (fun _ _ h => h.elim)))
          have HR6 := Lib.hid (ownsRow_fr HR5.out hfb (fun _ _ h => h))
          have HTK2 := Lib.hid hTK2
          have hT2 : T2.length ≤ 256 := by
            have h1 := congrArg List.length hTK2
            have h2 := HP6.out.ok.2.2.2
            simp only [List.length_map] at h1
            omega
          clear hTb hTK2 hfb
          go_wp2_with fail
          go_loopw [11] (fun j wk => ∃ m : Nat, m ≤ T2.length ∧ j = .int .i64 m ∧ Hid (Fr (fun _ => False) w6 wk)) (fun j _ => T2.length - (intOf j).toNat)
          case atStart => exact ⟨0, Nat.zero_le _, rfl, Lib.hid (Fr.refl _ _)⟩
          case round =>
            obtain ⟨m, hm, rfl, hf7⟩ := hrel
            by_cases hlm : m < T2.length
            · have hL2 := HLB.out.fr0 hf7.out
              obtain ⟨gb, cb, hv, hsh2, z0, z1, z2, z3, z4, z5, z6, z7⟩ := hL2.el hlm
              cases hv
              obtain ⟨q, hq, hqx, hmk, hqk⟩ := list_mem HTK2.out hlm
              have hr := HP6.out.ok.2.1 q hq
              obtain ⟨y, hy1, hy2⟩ := HA5.out.2 q hq
              obtain ⟨pk, hpk⟩ : ∃ pk : Nat, q.1.pid = (pk : Int) + 1 := ⟨(q.1.pid - 1).toNat, by omega⟩
              have e1 : (q.1.pid - 1).toNat = pk := by omega
              rw [e1] at hy1
              have hpkl : pk < TL.length := (List.getElem?_eq_some_iff.1 hy1).1
              have hye : TL[pk]'hpkl = y := (List.getElem?_eq_some_iff.1 hy1).2
              have hxy : TaskD.abs { y with pid := q.1.pid, state := q.1.state, code := q.1.code } = (T2[m]'hlm).abs := by
                rw [← hqx]
                exact hy2.symm
              obtain ⟨oo, hoo, hox⟩ := HS5.out y (by rw [← hye]; exact List.getElem_mem hpkl)
              have hFw := HF6.out.then (hf7.out.mono (S' := fun i => w.heap.size ≤ i) (fun _ _ h => h.elim))
              have hcy : CoresOk wr y.cv y.ns := by rw [← hox]; exact (HO.out.cor oo hoo).ok rfl hFw (HS3.out oo hoo)
              have hL1 : ListAt wr (.slice A4 TL.length cap4) TL := ⟨ownsRow_base_a' (ownsRow_fr HR6.out hf7.out (fun _ _ h => h)) (Nat.zero_le _), fun x hx => by
                obtain ⟨o2, ho2, ho3⟩ := HS5.out x hx
                rw [← ho3]
                exact (HO.out.cor o2 ho2).ok rfl hFw (HS3.out o2 ho2)⟩
              obtain ⟨ga, ca, hv, hsh, y0, y1, y2, y3, y4, y5, y6, y7⟩ := hL1.el hpkl
              cases hv
              have hcz := hL2.cor _ (List.getElem_mem hlm)
              have e2 : q.1.pid = (T2[m]'hlm).pid := by rw [hqx]; rfl
              have e3 : q.1.state = (T2[m]'hlm).state := by rw [hqx]; rfl
              have e4 : q.1.code = (T2[m]'hlm).code := by rw [hqx]; rfl
              rw [e2, e3, e4] at hxy
              rw [e2] at hpk hr
              have hprev : ∀ hm0 : 0 < m, ∃ pp : Int, wr.cell? ⟨gb, (m - 1) * 8, none⟩ = some (.int .i64 pp) ∧ pp < (T2[m]'hlm).pid := fun hm0 => by
                have hl2 : m - 1 < T2.length := by omega
                obtain ⟨gb', cb', hv, _, u0, _⟩ := hL2.el hl2
                cases hv
                refine ⟨_, u0, ?_⟩
                obtain ⟨q', hq', hqx', hmk', hqk'⟩ := list_mem HTK2.out hl2
                have h1 := List.pairwise_iff_getElem.1 HP6.out.ok.1 (m - 1) m hmk' hmk (by omega)
                rw [← hqk, ← hqk', hqx, hqx'] at h1
                exact h1
              rw [hye] at hsh y0 y1 y2 y3 y4 y5 y6 y7
              clear hL1 hL2 hq hqx hqk e1 e2 e3 e4 hy1 hy2 hye hox hoo hFw
              generalize (T2[m]'hlm) = z at *
              obtain ⟨p0, p1, p2, p3, p4, pc, pn, p6, p7⟩ := y
              obtain ⟨q0, q1, q2, q3, q4, qc, qn, q6, q7⟩ := z
              have hpk : q0 = (pk : Int) + 1 := hpk
              subst hpk
              obtain ⟨Ay, cy, hv⟩ := hsh
              have hv : pc = .slice Ay pn.length cy := hv
              subst hv
              obtain ⟨Az, cz, hv⟩ := hsh2
              have hv : qc = .slice Az qn.length cz := hv
              subst hv
              simp only at y0 y1 y2 y3 y4 y5 y6 y7 z0 z1 z2 z3 z4 z5 z6 z7 hr hprev
              have hp60 : (pk : Int) + 1 ≤ 100 := by have := hr.2.1; have := HL5.out; omega
              have b0 : decide ((pk : Int) + 1 < 1) = false := decide_eq_false (by omega)
              have b1 : decide (last < (pk : Int) + 1) = false := decide_eq_false (by omega)
              have ly0 := Later.cell y0
              have ly1 := Later.cell y1
              have ly2 := Later.cell y2
              have ly3 := Later.cell y3
              have ly4 := Later.cell y4
              have ly5 := Later.cell y5
              have ly6 := Later.cell y6
              have ly7 := Later.cell y7
              have lz0 := Later.cell z0
              have lz1 := Later.cell z1
              have lz2 := Later.cell z2
              have lz3 := Later.cell z3
              have lz4 := Later.cell z4
              have lz5 := Later.cell z5
              have lz6 := Later.cell z6
              have lz7 := Later.cell z7
              have HPV := Lib.hid hprev
              have hfx : Fr (fun _ => False) wr (wr.alloc (.cells #[.int .i64 ((pk : Int) + 1), .int .i64 p1, .int .i64 p2, .int .i64 p3, .int .i64 p4, .slice Ay pn.length cy, .int .i64 q6, .int .i64 q7] 61)) := (Fr.refl _ wr).alloc _
              have HCY := Lib.hid hcy
              have HCZ := Lib.hid hcz
              have HXY := Lib.hid hxy
              clear hr hprev hcy hcz hxy hfx
              have hrest : ∀ d : Later wr, Hid (∀ d2 : Later (d.val.alloc (.cells #[.int .i64 ((pk : Int) + 1), .int .i64 p1, .int .i64 p2, .int .i64 p3, .int .i64 p4, .slice Ay pn.length cy, .int .i64 q6, .int .i64 q7] 61)), Calls Try.prog 38 #[TaskD.val ⟨(pk : Int) + 1, p1, p2, p3, p4, .slice Ay pn.length cy, pn, q6, q7⟩, TaskD.val ⟨(pk : Int) + 1, q1, q2, q3, q4, .slice Az qn.length cz, qn, q6, q7⟩] d2.val fun e w' => e = .returned (.bool true) ∧ Fr (fun _ => False) d2.val w') := fun d => Lib.hid (fun d2 => one_eq _ _ _ HXY.out (((HCY.out.fr0 d.fr).fr0 ((Fr.refl _ _).alloc _)).fr0 d2.fr) (((HCZ.out.fr0 d.fr).fr0 ((Fr.refl _ _).alloc _)).fr0 d2.fr))
              simp only [TaskD.val] at hrest
              have HREST := Lib.hid hrest
              clear hrest
              have hm0 : (decide ((0 : Int) < (m : Int)) = false ∧ decide (0 < m) = false) ∨ ∃ m' pp, m = m' + 1 ∧ wr.cell? ⟨gb, m' * 8, none⟩ = some (.int .i64 pp) ∧ pp < (pk : Int) + 1 := by
                by_cases h0 : 0 < m
                · obtain ⟨pp, h1, h2⟩ := HPV.out h0
                  exact Or.inr ⟨m - 1, pp, by omega, h1, h2⟩
                · exact Or.inl ⟨decide_eq_false (by omega), decide_eq_false h0⟩
              rcases hm0 with ⟨b2, b3⟩ | ⟨m', pp, rfl, lp0', hlp⟩
              · go_wp2_with fail
                clear y0 y1 y2 y3 y4 y5 y6 y7 z0 z1 z2 z3 z4 z5 z6 z7
                refine wp_region_later wr (by kernel_rfl) (by kernel_rfl) (Fr.refl _ _) ?_
                repeat (go_big_quiet_step (fail))
                refine wpQuiet_nil ?_
                rintro _ ⟨d, rfl⟩
                have hc1 := (HREST.out d).out
                clear HREST
                have y0 := ly0 d
                have y1 := ly1 d
                have y2 := ly2 d
                have y3 := ly3 d
                have y4 := ly4 d
                have y5 := ly5 d
                have y6 := ly6 d
                have y7 := ly7 d
                have z0 := lz0 d
                have z6 := lz6 d
                have z7 := lz7 d
                have zo0 : ∀ o, (d.val.alloc o).cell? ⟨gb, (m) * 8, none⟩ = some (.int .i64 ((pk : Int) + 1)) := fun o => lz0 ⟨_, d.fr.alloc o⟩
                have zo6 : ∀ o, (d.val.alloc o).cell? ⟨gb, (m) * 8 + 6, none⟩ = some (.int .i64 q6) := fun o => lz6 ⟨_, d.fr.alloc o⟩
                have zo7 : ∀ o, (d.val.alloc o).cell? ⟨gb, (m) * 8 + 7, none⟩ = some (.int .i64 q7) := fun o => lz7 ⟨_, d.fr.alloc o⟩
                go_wp2_with fail
                clear y0 y1 y2 y3 y4 y5 y6 y7 z0 z6 z7 zo0 zo6 zo7 ly0 ly1 ly2 ly3 ly4 ly5 ly6 ly7
                obtain ⟨v0, v1, v2, v3, v4, v5, v6, v7⟩ := tc (Blk.new d.val 61 #[.int .i64 ((pk : Int) + 1), .int .i64 p1, .int .i64 p2, .int .i64 p3, .int .i64 p4, .slice Ay pn.length cy, .int .i64 q6, .int .i64 q7])
                have lv0 := Later.cell v0
                have lv1 := Later.cell v1
                have lv2 := Later.cell v2
                have lv3 := Later.cell v3
                have lv4 := Later.cell v4
                have lv5 := Later.cell v5
                have lv6 := Later.cell v6
                have lv7 := Later.cell v7
                have s0 : (d.val.alloc (.cells #[.int .i64 ((pk : Int) + 1), .int .i64 p1, .int .i64 p2, .int .i64 p3, .int .i64 p4, .slice Ay pn.length cy, .int .i64 q6, .int .i64 q7] 61)).cell? ⟨gb, (m) * 8, none⟩ = some (.int .i64 ((pk : Int) + 1)) := lz0 ⟨_, d.fr.alloc _⟩
                have ls0 := Later.cell s0
                have s1 : (d.val.alloc (.cells #[.int .i64 ((pk : Int) + 1), .int .i64 p1, .int .i64 p2, .int .i64 p3, .int .i64 p4, .slice Ay pn.length cy, .int .i64 q6, .int .i64 q7] 61)).cell? ⟨gb, (m) * 8 + 1, none⟩ = some (.int .i64 q1) := lz1 ⟨_, d.fr.alloc _⟩
                have ls1 := Later.cell s1
                have s2 : (d.val.alloc (.cells #[.int .i64 ((pk : Int) + 1), .int .i64 p1, .int .i64 p2, .int .i64 p3, .int .i64 p4, .slice Ay pn.length cy, .int .i64 q6, .int .i64 q7] 61)).cell? ⟨gb, (m) * 8 + 2, none⟩ = some (.int .i64 q2) := lz2 ⟨_, d.fr.alloc _⟩
                have ls2 := Later.cell s2
                have s3 : (d.val.alloc (.cells #[.int .i64 ((pk : Int) + 1), .int .i64 p1, .int .i64 p2, .int .i64 p3, .int .i64 p4, .slice Ay pn.length cy, .int .i64 q6, .int .i64 q7] 61)).cell? ⟨gb, (m) * 8 + 3, none⟩ = some (.int .i64 q3) := lz3 ⟨_, d.fr.alloc _⟩
                have ls3 := Later.cell s3
                have s4 : (d.val.alloc (.cells #[.int .i64 ((pk : Int) + 1), .int .i64 p1, .int .i64 p2, .int .i64 p3, .int .i64 p4, .slice Ay pn.length cy, .int .i64 q6, .int .i64 q7] 61)).cell? ⟨gb, (m) * 8 + 4, none⟩ = some (.int .i64 q4) := lz4 ⟨_, d.fr.alloc _⟩
                have ls4 := Later.cell s4
                have s5 : (d.val.alloc (.cells #[.int .i64 ((pk : Int) + 1), .int .i64 p1, .int .i64 p2, .int .i64 p3, .int .i64 p4, .slice Ay pn.length cy, .int .i64 q6, .int .i64 q7] 61)).cell? ⟨gb, (m) * 8 + 5, none⟩ = some (.slice Az qn.length cz) := lz5 ⟨_, d.fr.alloc _⟩
                have ls5 := Later.cell s5
                have s6 : (d.val.alloc (.cells #[.int .i64 ((pk : Int) + 1), .int .i64 p1, .int .i64 p2, .int .i64 p3, .int .i64 p4, .slice Ay pn.length cy, .int .i64 q6, .int .i64 q7] 61)).cell? ⟨gb, (m) * 8 + 6, none⟩ = some (.int .i64 q6) := lz6 ⟨_, d.fr.alloc _⟩
                have ls6 := Later.cell s6
                have s7 : (d.val.alloc (.cells #[.int .i64 ((pk : Int) + 1), .int .i64 p1, .int .i64 p2, .int .i64 p3, .int .i64 p4, .slice Ay pn.length cy, .int .i64 q6, .int .i64 q7] 61)).cell? ⟨gb, (m) * 8 + 7, none⟩ = some (.int .i64 q7) := lz7 ⟨_, d.fr.alloc _⟩
                have ls7 := Later.cell s7
                clear v0 v1 v2 v3 v4 v5 v6 v7 s0 s1 s2 s3 s4 s5 s6 s7 lz0 lz1 lz2 lz3 lz4 lz5 lz6 lz7
                refine wp_region_later (d.val.alloc (.cells #[.int .i64 ((pk : Int) + 1), .int .i64 p1, .int .i64 p2, .int .i64 p3, .int .i64 p4, .slice Ay pn.length cy, .int .i64 q6, .int .i64 q7] 61)) (by kernel_rfl) (by kernel_rfl) (Fr.refl _ _) ?_
                repeat (go_big_quiet_step (first | (go_at_call 38; exact later_call (hc1 _))))
                refine wpQuiet_nil ?_
                rintro _ ⟨d2, rfl⟩
                go_wp2
                go_roundw
                case rel => exact ⟨m + 1, by omega, by go_num, Lib.hid (((hf7.out.then d.fr).then ((Fr.refl _ d.val).alloc _)).then d2.fr)⟩
                case measure => simp [intOf]; omega
              · have b2 : decide ((0 : Int) < ((m' + 1 : Nat) : Int)) = true := decide_eq_true (by omega)
                have b3 : decide (0 < m' + 1) = true := decide_eq_true (by omega)
                have b4 : decide ((pk : Int) + 1 ≤ pp) = false := decide_eq_false (by omega)
                have lp0 := Later.cell lp0'
                have hm1 : m' < T2.length := by omega
                go_wp2_with fail
                clear y0 y1 y2 y3 y4 y5 y6 y7 z0 z1 z2 z3 z4 z5 z6 z7 lp0'
                refine wp_region_later wr (by kernel_rfl) (by kernel_rfl) (Fr.refl _ _) ?_
                repeat (go_big_quiet_step (fail))
                refine wpQuiet_nil ?_
                rintro _ ⟨d, rfl⟩
                have hc1 := (HREST.out d).out
                clear HREST
                have y0 := ly0 d
                have y1 := ly1 d
                have y2 := ly2 d
                have y3 := ly3 d
                have y4 := ly4 d
                have y5 := ly5 d
                have y6 := ly6 d
                have y7 := ly7 d
                have z0 := lz0 d
                have z6 := lz6 d
                have z7 := lz7 d
                have zo0 : ∀ o, (d.val.alloc o).cell? ⟨gb, (m' + 1) * 8, none⟩ = some (.int .i64 ((pk : Int) + 1)) := fun o => lz0 ⟨_, d.fr.alloc o⟩
                have zo6 : ∀ o, (d.val.alloc o).cell? ⟨gb, (m' + 1) * 8 + 6, none⟩ = some (.int .i64 q6) := fun o => lz6 ⟨_, d.fr.alloc o⟩
                have zo7 : ∀ o, (d.val.alloc o).cell? ⟨gb, (m' + 1) * 8 + 7, none⟩ = some (.int .i64 q7) := fun o => lz7 ⟨_, d.fr.alloc o⟩
                go_wp2_with fail
                clear y0 y1 y2 y3 y4 y5 y6 y7 z0 z6 z7 zo0 zo6 zo7 ly0 ly1 ly2 ly3 ly4 ly5 ly6 ly7
                obtain ⟨v0, v1, v2, v3, v4, v5, v6, v7⟩ := tc (Blk.new d.val 61 #[.int .i64 ((pk : Int) + 1), .int .i64 p1, .int .i64 p2, .int .i64 p3, .int .i64 p4, .slice Ay pn.length cy, .int .i64 q6, .int .i64 q7])
                have lv0 := Later.cell v0
                have lv1 := Later.cell v1
                have lv2 := Later.cell v2
                have lv3 := Later.cell v3
                have lv4 := Later.cell v4
                have lv5 := Later.cell v5
                have lv6 := Later.cell v6
                have lv7 := Later.cell v7
                have s0 : (d.val.alloc (.cells #[.int .i64 ((pk : Int) + 1), .int .i64 p1, .int .i64 p2, .int .i64 p3, .int .i64 p4, .slice Ay pn.length cy, .int .i64 q6, .int .i64 q7] 61)).cell? ⟨gb, (m' + 1) * 8, none⟩ = some (.int .i64 ((pk : Int) + 1)) := lz0 ⟨_, d.fr.alloc _⟩
                have ls0 := Later.cell s0
                have s1 : (d.val.alloc (.cells #[.int .i64 ((pk : Int) + 1), .int .i64 p1, .int .i64 p2, .int .i64 p3, .int .i64 p4, .slice Ay pn.length cy, .int .i64 q6, .int .i64 q7] 61)).cell? ⟨gb, (m' + 1) * 8 + 1, none⟩ = some (.int .i64 q1) := lz1 ⟨_, d.fr.alloc _⟩
                have ls1 := Later.cell s1
                have s2 : (d.val.alloc (.cells #[.int .i64 ((pk : Int) + 1), .int .i64 p1, .int .i64 p2, .int .i64 p3, .int .i64 p4, .slice Ay pn.length cy, .int .i64 q6, .int .i64 q7] 61)).cell? ⟨gb, (m' + 1) * 8 + 2, none⟩ = some (.int .i64 q2) := lz2 ⟨_, d.fr.alloc _⟩
                have ls2 := Later.cell s2
                have s3 : (d.val.alloc (.cells #[.int .i64 ((pk : Int) + 1), .int .i64 p1, .int .i64 p2, .int .i64 p3, .int .i64 p4, .slice Ay pn.length cy, .int .i64 q6, .int .i64 q7] 61)).cell? ⟨gb, (m' + 1) * 8 + 3, none⟩ = some (.int .i64 q3) := lz3 ⟨_, d.fr.alloc _⟩
                have ls3 := Later.cell s3
                have s4 : (d.val.alloc (.cells #[.int .i64 ((pk : Int) + 1), .int .i64 p1, .int .i64 p2, .int .i64 p3, .int .i64 p4, .slice Ay pn.length cy, .int .i64 q6, .int .i64 q7] 61)).cell? ⟨gb, (m' + 1) * 8 + 4, none⟩ = some (.int .i64 q4) := lz4 ⟨_, d.fr.alloc _⟩
                have ls4 := Later.cell s4
                have s5 : (d.val.alloc (.cells #[.int .i64 ((pk : Int) + 1), .int .i64 p1, .int .i64 p2, .int .i64 p3, .int .i64 p4, .slice Ay pn.length cy, .int .i64 q6, .int .i64 q7] 61)).cell? ⟨gb, (m' + 1) * 8 + 5, none⟩ = some (.slice Az qn.length cz) := lz5 ⟨_, d.fr.alloc _⟩
                have ls5 := Later.cell s5
                have s6 : (d.val.alloc (.cells #[.int .i64 ((pk : Int) + 1), .int .i64 p1, .int .i64 p2, .int .i64 p3, .int .i64 p4, .slice Ay pn.length cy, .int .i64 q6, .int .i64 q7] 61)).cell? ⟨gb, (m' + 1) * 8 + 6, none⟩ = some (.int .i64 q6) := lz6 ⟨_, d.fr.alloc _⟩
                have ls6 := Later.cell s6
                have s7 : (d.val.alloc (.cells #[.int .i64 ((pk : Int) + 1), .int .i64 p1, .int .i64 p2, .int .i64 p3, .int .i64 p4, .slice Ay pn.length cy, .int .i64 q6, .int .i64 q7] 61)).cell? ⟨gb, (m' + 1) * 8 + 7, none⟩ = some (.int .i64 q7) := lz7 ⟨_, d.fr.alloc _⟩
                have ls7 := Later.cell s7
                clear v0 v1 v2 v3 v4 v5 v6 v7 s0 s1 s2 s3 s4 s5 s6 s7 lz0 lz1 lz2 lz3 lz4 lz5 lz6 lz7
                refine wp_region_later (d.val.alloc (.cells #[.int .i64 ((pk : Int) + 1), .int .i64 p1, .int .i64 p2, .int .i64 p3, .int .i64 p4, .slice Ay pn.length cy, .int .i64 q6, .int .i64 q7] 61)) (by kernel_rfl) (by kernel_rfl) (Fr.refl _ _) ?_
                repeat (go_big_quiet_step (first | (go_at_call 38; exact later_call (hc1 _))))
                refine wpQuiet_nil ?_
                rintro _ ⟨d2, rfl⟩
                go_wp2
                go_roundw
                case rel => exact ⟨m' + 1 + 1, by omega, by go_num, Lib.hid (((hf7.out.then d.fr).then ((Fr.refl _ d.val).alloc _)).then d2.fr)⟩
                case measure => simp [intOf]; omega
            · obtain rfl : m = T2.length := by omega
              have HPF := Lib.hid (HP6.out.fr0 hf7.out)
              have HFF := Lib.hid (HF6.out.then (hf7.out.mono (fun _ _ h => h.elim)))
              have HRF := Lib.hid (ownsRow_fr HR6.out hf7.out (fun _ _ h => h))
              go_wp2
              go_roundw
              case rel => exact ⟨n + 1, K5, last, TL, by omega, by go_num, rfl, HPF.out, HL5.out, HA5.out, HRF.out, HS5.out, HFF.out⟩
              case measure => simp [intOf]; omega

      · obtain rfl : n = L.length := by omega
        have HF := Lib.hid hF
        clear hP hF hA hrow hS
        go_wp2_with fail
        refine (live33_any _).mono ?_
        rintro e wL ⟨rfl, hfL⟩
        go_wp2
        go_ret
        exact ⟨rfl, HF.out.then (hfL.mono (fun _ _ h => h.elim))⟩

end Go.Proofs.Ytomoomopodihhaa
