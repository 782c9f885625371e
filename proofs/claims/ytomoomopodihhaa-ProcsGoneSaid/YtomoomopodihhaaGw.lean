/-
  ProcsGone, walked.
-/
import Derived.Test.YtomoomopodihhaaGn
namespace Go.Proofs.Ytomoomopodihhaa
open Go.RowKit Go.Maps

theorem find_gone (K : List (TaskD × Int)) (id : Int) : findP (K.filter fun p => p.1.pid != id) id = none := by
  unfold findP
  rw [List.find?_eq_none]
  intro p hp
  have := (List.mem_filter.1 hp).2
  simpa using this

set_option maxRecDepth 20000 in
set_option maxHeartbeats 8000000 in
theorem procsGone11_any (w : World) (A : Option Addr) (cap : Nat) (L : List OpP) (h : OpsP w w.heap.size A L) (hl : L.length ≤ maxLen) (pid : Int) (hid : wf64 pid) :
    Calls Try.prog 11 #[.slice A L.length cap, .int .i64 pid] w fun e w' => e = .returned (.bool true) ∧ Fr (fun i => w.heap.size ≤ i) w w' := by
  have HO := Lib.hid h
  have C32 := small32_any w A cap L h hl 60
  obtain ⟨sm, hsm⟩ : ∃ sm, smallP L 60 = sm := ⟨_, rfl⟩
  rw [hsm] at C32
  have C32 := Lib.hid C32
  have HSM := Lib.hid hsm
  unfold maxLen at hl
  clear h hsm
  go_enter Try.func11, Try.ntmps11
  go_wp2_with fail
  refine C32.out.mono ?_
  rintro e w1 ⟨rfl, hf1⟩
  have HF1 := Lib.hid (hf1.mono (S' := fun i => w.heap.size ≤ i) (fun _ _ h => h.elim))
  clear hf1
  cases sm with
  | false =>
    go_wp2_with fail
    refine (live33_any _).mono ?_
    rintro e w2 ⟨rfl, hf2⟩
    go_wp2
    go_ret
    exact ⟨rfl, HF1.out.then (hf2.mono (fun _ _ h => h.elim))⟩
  | true =>
    obtain ⟨hs3, hL60⟩ := smallP_true HSM.out
    have HS3 := Lib.hid hs3
    have hL60 : L.length ≤ 60 := by omega
    have HN := Lib.hid (new_ps w1)
    clear hs3
    go_wp2_with fail
    refine HN.out.mono ?_
    rintro e w2 ⟨t, rfl, hps, hf2⟩
    have hsz1 := HF1.out.size
    have HR := Lib.hid (show TabRel w L.length t (.int .i64 (0 : Nat)) w2 from ⟨0, [], 0, Nat.zero_le _, rfl, (by
      obtain ⟨X, h1, h2, h3⟩ := hps
      exact ⟨X, h1, fun i hi => Nat.le_trans hsz1 (h2 i hi), fun i hi => Nat.le_trans hsz1 (h3 i hi)⟩), by omega, HF1.out.then (hf2.mono (fun _ _ h => h.elim))⟩)
    clear hps hf2
    go_wp2_with fail
    go_loopw [6] (fun i wr => TabRel w L.length t i wr) (fun i _ => L.length - (intOf i).toNat)
    case atStart => exact HR.out
    case round =>
      obtain ⟨n, K, last, hn, rfl, hP, hla, hF⟩ := hrel
      by_cases hlt : n < L.length
      · have HF := Lib.hid hF
        have hsw : w.heap.size ≤ wr.heap.size := hF.size
        have hfb : Fr (fun _ => False) wr (wr.alloc (.cells #[.slice none 0 0, .slice none 0 0, .int .i64 0] 58)) := (Fr.refl _ wr).alloc _
        have hF3 := hF.then (hfb.mono (fun _ _ h => h.elim))
        obtain ⟨b, off, rfl, hc⟩ := HO.out.el hF3 hlt
        have hok := HO.out.op hF3 HS3.out (B := fun i => (w.heap.size ≤ i ∧ i < wr.heap.size) ∨ wr.heap.size ≤ i) (fun i hi => by rcases hi with hi | hi; exact hi.1; omega) (List.getElem_mem hlt)
        have hboth := hP.both (Fr.refl _ wr)
        generalize (L[n]'hlt) = o at *
        have HLL := Lib.hid (doesL_le (K := K) (last := last) (o := o))
        obtain ⟨do_, pd, nn, xp, xj, xe, xs, xr, xc, xn, xt, xo⟩ := o
        obtain ⟨A', cap', hv⟩ := hok.cor.ints.sh
        have hv : xc = .slice A' xn.length cap' := hv
        subst hv
        obtain ⟨c0, c1, c2, c3, c4, c5, c6, c7, c8, c9, c10⟩ := ar11 (off := off + n * 11) hc
        have C35 := Lib.hid (does35_any _ t wr.heap.size 0 _ K last hboth (fun i hi => Or.inr (by rw [World.size_alloc] at hi; omega)) (by omega) ⟨do_, pd, nn, xp, xj, xe, xs, xr, .slice A' xn.length cap', xn, xt, xo⟩ hok (by omega))
        have HF3 := Lib.hid hF3
        clear hfb hF3 hF hc hok hboth hP
        simp only [OpP.val] at C35
        go_wp2_with fail
        refine C35.out.mono ?_
        rintro e w4 ⟨b4, rfl, hd4, hf4⟩
        clear c0 c1 c2 c3 c4 c5 c6 c7 c8 c9 c10
        have hszg := hf4.size
        rw [World.size_alloc] at hszg
        have HP4 := Lib.hid (hd4.ps (B' := fun i => w.heap.size ≤ i) (fun i hi => by rcases hi with hi | hi; exact hi.1; omega) (fun i hi => by omega))
        have HF4 := Lib.hid (HF3.out.then (hf4.mono (S' := fun i => w.heap.size ≤ i) (fun i _ hi => by rcases hi with hi | hi; exact hi.1; omega)))
        clear hd4 hf4
        have HL5 := Lib.hid (show doesL K last ⟨do_, pd, nn, xp, xj, xe, xs, xr, .slice A' xn.length cap', xn, xt, xo⟩ ≤ ((n + 1 : Nat) : Int) from by have := HLL.out.2; omega)
        go_wp2
        go_roundw
        case rel => exact ⟨n + 1, _, _, by omega, by go_num, HP4.out, HL5.out, HF4.out⟩
        case measure => simp [intOf]; omega
      · obtain rfl : n = L.length := by omega
        have HOK := Lib.hid (hP.ok)
        have C36 := Lib.hid (list_ps hP)
        have HP := Lib.hid hP
        have HF := Lib.hid hF
        have hKl := hP.ok.2.2.2
        have hsw : w.heap.size ≤ wr.heap.size := hF.size
        clear hP hF
        go_wp2_with fail
        refine C36.out.mono ?_
        rintro e wa ⟨va, T, rfl, hTa, hTK, hfa⟩
        obtain ⟨Aa, capa, rfl⟩ := row_shape hTa.row
        have hKT : K.length = T.length := by
          have := congrArg List.length hTK
          simpa using this.symm
        obtain ⟨X, hX1, hX2, hX3⟩ := HP.out
        have HXL := Lib.hid (fun i (hi : X i) => hX1.lt hi)
        have HX2 := Lib.hid hX2
        have C39 := Lib.hid (reap39_any wa t K last X (hX1.fr0 hfa) pid hid)
        have HTA := Lib.hid hTa
        have HTK := Lib.hid hTK
        have HFA := Lib.hid (HF.out.then (hfa.mono (fun _ _ h => h.elim)))
        have hsza := hfa.size
        clear hTa hTK hfa hX1 hX2 hX3
        go_wp2_with fail
        refine C39.out.mono ?_
        rintro e w2 ⟨x1, rfl, hcx, hnx, hfx, _⟩
        have hLA := HTA.out.list.fr hnx.frX (fun k hk hi => by have := (HTA.out.row.lt k hk).1; have := HXL.out k hi; omega) (fun x hx k hk hi => by have := ((HTA.out.cor x hx).lt k hk).1; have := HXL.out k hi; omega)
        have hsz2 := hnx.frX.size
        obtain ⟨a0, a1, a2, a3, a4, ac, an, a6, a7⟩ := x1
        have hcx : CoresOk w2 ac an := hcx
        obtain ⟨Ax, cx, rfl⟩ := hcx.ints.sh
        simp only [TaskD.val]
        have hfb : Fr (fun _ => False) w2 (w2.alloc (.cells #[.int .i64 a0, .int .i64 a1, .int .i64 a2, .int .i64 a3, .int .i64 a4, .slice Ax an.length cx, .int .i64 a6, .int .i64 a7] 61)) := (Fr.refl _ w2).alloc _
        have HB3 := Lib.hid (Blk.new w2 61 #[.int .i64 a0, .int .i64 a1, .int .i64 a2, .int .i64 a3, .int .i64 a4, .slice Ax an.length cx, .int .i64 a6, .int .i64 a7])
        have HPB := Lib.hid (show PS (w2.alloc (.cells #[.int .i64 a0, .int .i64 a1, .int .i64 a2, .int .i64 a3, .int .i64 a4, .slice Ax an.length cx, .int .i64 a6, .int .i64 a7] 61)) t (fun i => w.heap.size ≤ i ∧ i ≠ w2.heap.size) (reapK K pid) last from by
          obtain ⟨X', g1, g2, g3⟩ := hnx
          refine ⟨X', g1.fr0 hfb, fun i hi => ⟨?_, ?_⟩, fun i hi => ?_⟩
          · rcases g3 i hi with h | h
            · exact HX2.out i h
            · omega
          · have := g1.lt hi; omega
          · rw [World.size_alloc] at hi; omega)
        have HF3 := Lib.hid ((HFA.out.then (hnx.frX.mono (S' := fun i => w.heap.size ≤ i) (fun i _ hi => HX2.out i hi))).then (hfb.mono (fun _ _ h => h.elim)))
        have HLA := Lib.hid (hLA.fr0 hfb)
        have HCX := Lib.hid (hcx.fr0 hfb)
        have C36b := Lib.hid (list_ps HPB.out)
        have HFX := Lib.hid hfx
        clear hnx hLA hcx hfb hfx
        go_wp2_with fail
        refine C36b.out.mono ?_
        rintro e w5 ⟨vb, T2, rfl, hTb, hTK2, hfb⟩
        obtain ⟨Ab, capb, rfl⟩ := row_shape hTb.row
        have HLA5 := Lib.hid (HLA.out.fr0 hfb)
        have HLB5 := Lib.hid hTb.list
        have HB5 := Lib.hid (HB3.out.fr hfb (fun h => h))
        have HC5 := Lib.hid (HCX.out.fr0 hfb)
        have HP5 := Lib.hid (HPB.out.fr0 hfb)
        have HF5 := Lib.hid (HF3.out.then (hfb.mono (fun _ _ h => h.elim)))
        have HTK2 := Lib.hid hTK2
        have hT2 : T2.length ≤ 256 := by
          have h1 := congrArg List.length hTK2
          have h2 := HP5.out.ok.2.2.2
          simp only [List.length_map] at h1
          omega
        have hszb := hfb.size
        rw [World.size_alloc] at hszb
        clear hTb hTK2 hfb HLA HCX HPB HB3
        by_cases hr0 : reapN K pid = 0
        · have hfind := HFX.out
          rw [if_pos hr0] at hfind
          have hK' : reapK K pid = K.filter (fun p => p.1.pid != pid) := by unfold reapK; rw [if_pos hr0]
          have hst : a6 = 2 := by
            unfold reapN at hr0
            cases hf : findP K pid with
            | none => rw [hf] at hr0; simp at hr0
            | some p =>
              rw [hf] at hr0 hfind
              have h1 : p.1.state = 2 := by
                by_cases h2 : p.1.state = 2
                · exact h2
                · simp [h2] at hr0
              have h2 : p.1 = _ := Option.some.inj hfind
              rw [h2] at h1
              exact h1
          have HKE := Lib.hid (kept_abs HTK.out (by rw [← hK']; exact HTK2.out))
          have HFIND := Lib.hid (fun q (hq : q ∈ K) (e : q.1.pid = pid) => show q.1 = TaskD.abs ⟨a0, a1, a2, a3, a4, .slice Ax an.length cx, an, a6, a7⟩ from by
            have h1 := HOK.out.find hq
            rw [e] at h1
            rw [h1] at hfind
            exact Option.some.inj hfind)
          have HST := Lib.hid hst
          rw [hK'] at HP5
          generalize reapN K pid = r1 at *
          subst hr0
          clear hfind hK' hst HFX
          go_wp2_with fail
          go_loopw [11, 12] (fun k i wk => ∃ m : Nat, m ≤ T.length ∧ i = .int .i64 m ∧ k = .int .i64 (keptN T pid m) ∧ Hid (Fr (fun _ => False) w5 wk)) (fun _ i _ => T.length - (intOf i).toNat)
          case atStart => exact ⟨0, Nat.zero_le _, rfl, rfl, Lib.hid (Fr.refl _ _)⟩
          case round =>
            obtain ⟨m, hm, rfl, rfl, hf5⟩ := hrel
            by_cases hlm : m < T.length
            · have hL1 := HLA5.out.fr0 hf5.out
              have hL2 := HLB5.out.fr0 hf5.out
              have hb1 := HB5.out.fr hf5.out (fun h => h)
              obtain ⟨ga, ca, hv, hsh, y0, y1, y2, y3, y4, y5, y6, y7⟩ := hL1.el hlm
              cases hv
              obtain ⟨q, hq, hqx, _⟩ := list_mem HTK.out hlm
              have hcor := hL1.cor _ (List.getElem_mem hlm)
              have hks := keptN_step (id := pid) hlm
              by_cases hpe : (T[m]'hlm).pid = pid
              · have hxy : (T[m]'hlm).abs = TaskD.abs ⟨a0, a1, a2, a3, a4, .slice Ax an.length cx, an, a6, a7⟩ := by
                  rw [← hqx]
                  exact HFIND.out q hq (by rw [hqx]; exact hpe)
                rw [if_pos hpe] at hks
                have HC := Lib.hid (fun (d : Later wr) => one_eq d.val _ _ hxy (hcor.fr0 d.fr) ((HC5.out.fr0 hf5.out).fr0 d.fr))
                have b0 : ((T[m]'hlm).pid == pid) = true := by simpa using hpe
                have HKS := Lib.hid hks
                obtain ⟨z0, z1, z2, z3, z4, z5, z6, z7⟩ := tc hb1
                clear hxy hcor hL1 hL2 hb1 hq hqx hpe hks
                generalize (T[m]'hlm) = y at *
                obtain ⟨p0, p1, p2, p3, p4, pc, pn, p6, p7⟩ := y
                obtain ⟨Ay, cy, hv⟩ := hsh
                have hv : pc = .slice Ay pn.length cy := hv
                subst hv
                simp only [TaskD.val] at HC
                simp only at y0 y1 y2 y3 y4 y5 y6 y7 b0
                have ly0 := Later.cell y0
                have ly1 := Later.cell y1
                have ly2 := Later.cell y2
                have ly3 := Later.cell y3
                have ly4 := Later.cell y4
                have ly5 := Later.cell y5
                have ly6 := Later.cell y6
                have ly7 := Later.cell y7
                have lz0 := Later.cell z0
                have lz1 := Later.cell z1
                have lz2 := Later.cell z2
                have lz3 := Later.cell z3
                have lz4 := Later.cell z4
                have lz5 := Later.cell z5
                have lz6 := Later.cell z6
                have lz7 := Later.cell z7
                go_wp2_with fail
                clear y0 y1 y2 y3 y4 y5 y6 y7 z0 z1 z2 z3 z4 z5 z6 z7
                refine wp_region_later wr (by kernel_rfl) (by kernel_rfl) (Fr.refl _ _) ?_
                repeat (go_big_quiet_step (first | (go_at_call 38; exact later_call (HC.out _))))
                refine wpQuiet_nil ?_
                rintro _ ⟨d, rfl⟩
                go_wp2
                go_roundw
                case rel => exact ⟨m + 1, by omega, by go_num, by rw [HKS.out]; rfl, Lib.hid (hf5.out.then d.fr)⟩
                case measure => simp [intOf]; omega
              · obtain ⟨hk2, hxy⟩ := kept_el HKE.out hlm hpe
                rw [if_neg hpe] at hks
                have HC := Lib.hid (fun (d : Later wr) => one_eq d.val _ _ hxy.symm (hcor.fr0 d.fr) ((hL2.cor _ (List.getElem_mem hk2)).fr0 d.fr))
                have b0 : ((T[m]'hlm).pid == pid) = false := by simpa using hpe
                have b1 : decide ((T2.length : Int) ≤ (keptN T pid m : Int)) = false := decide_eq_false (by omega)
                have b2 : decide (T2.length ≤ keptN T pid m) = false := decide_eq_false (by omega)
                obtain ⟨gb, cb, hv, hsh2, z0, z1, z2, z3, z4, z5, z6, z7⟩ := hL2.el hk2
                cases hv
                have HKS := Lib.hid hks
                clear hxy hcor hL1 hL2 hb1 hq hqx hpe hks
                generalize (T[m]'hlm) = y at *
                generalize (T2[keptN T pid m]'hk2) = z at *
                obtain ⟨p0, p1, p2, p3, p4, pc, pn, p6, p7⟩ := y
                obtain ⟨q0, q1, q2, q3, q4, qc, qn, q6, q7⟩ := z
                obtain ⟨Ay, cy, hv⟩ := hsh
                have hv : pc = .slice Ay pn.length cy := hv
                subst hv
                obtain ⟨Az, cz, hv⟩ := hsh2
                have hv : qc = .slice Az qn.length cz := hv
                subst hv
                simp only [TaskD.val] at HC
                simp only at y0 y1 y2 y3 y4 y5 y6 y7 z0 z1 z2 z3 z4 z5 z6 z7 b0
                have HKS2 := Lib.hid (show keptN T pid (m + 1) = keptN T pid m + 1 from HKS.out)
                clear HKS
                generalize keptN T pid m = kn at *
                have ly0 := Later.cell y0
                have ly1 := Later.cell y1
                have ly2 := Later.cell y2
                have ly3 := Later.cell y3
                have ly4 := Later.cell y4
                have ly5 := Later.cell y5
                have ly6 := Later.cell y6
                have ly7 := Later.cell y7
                have lz0 := Later.cell z0
                have lz1 := Later.cell z1
                have lz2 := Later.cell z2
                have lz3 := Later.cell z3
                have lz4 := Later.cell z4
                have lz5 := Later.cell z5
                have lz6 := Later.cell z6
                have lz7 := Later.cell z7
                go_wp2_with fail
                clear y0 y1 y2 y3 y4 y5 y6 y7 z0 z1 z2 z3 z4 z5 z6 z7
                refine wp_region_later wr (by kernel_rfl) (by kernel_rfl) (Fr.refl _ _) ?_
                repeat (go_big_quiet_step (first | (go_at_call 38; exact later_call (HC.out _))))
                refine wpQuiet_nil ?_
                rintro _ ⟨d, rfl⟩
                go_wp2
                go_roundw
                case rel => exact ⟨m + 1, by omega, by go_num, by rw [HKS2.out]; go_num, Lib.hid (hf5.out.then d.fr)⟩
                case measure => simp [intOf]; omega
            · obtain rfl : m = T.length := by omega
              have hka := kept_all HKE.out
              have b0 : ((keptN T pid T.length : Int) == (T2.length : Int)) = true := by rw [hka]; simp
              have hfg := find_gone K pid
              have hr2 : reapN (K.filter fun p => p.1.pid != pid) pid = 1 := by unfold reapN; rw [hfg]
              have hk2 : reapK (K.filter fun p => p.1.pid != pid) pid = K.filter fun p => p.1.pid != pid := by unfold reapK; rw [hr2]; rfl
              have hr3 : relN (K.filter fun p => p.1.pid != pid) pid = 1 := by unfold relN; rw [hfg]
              have hk3 : relK (K.filter fun p => p.1.pid != pid) pid = K.filter fun p => p.1.pid != pid := by unfold relK; rw [hr3]; rfl
              have hr4 : sgnN (K.filter fun p => p.1.pid != pid) pid 9 = 1 := by unfold sgnN; rw [hfg]; rfl
              have hk4 : sgnK (K.filter fun p => p.1.pid != pid) pid 9 = K.filter fun p => p.1.pid != pid := by unfold sgnK; rw [hr4]; rfl
              have HS5 := Lib.hid (show sigP (K.filter fun p => p.1.pid != pid) pid = 0 from by unfold sigP; rw [hfg]; rfl)
              have C39b := Lib.hid (reap_ps (HP5.out.fr0 hf5.out) pid hid 1 hr2 hk2)
              have CREL := Lib.hid (fun (W : World) (hW : PS W t (fun i => w.heap.size ≤ i ∧ i ≠ w2.heap.size) (K.filter fun p => p.1.pid != pid) last) => rel_ps hW pid hid 1 hr3 hk3)
              have CSIG := Lib.hid (fun (W : World) (hW : PS W t (fun i => w.heap.size ≤ i ∧ i ≠ w2.heap.size) (K.filter fun p => p.1.pid != pid) last) => sig_ps hW pid hid 9 1 hr4 hk4)
              have CSD := Lib.hid (fun (W : World) (hW : PS W t (fun i => w.heap.size ≤ i ∧ i ≠ w2.heap.size) (K.filter fun p => p.1.pid != pid) last) => signalled_ps hW pid hid)
              rw [HS5.out] at CSD
              have HB6 := Lib.hid (HB5.out.fr hf5.out (fun h => h))
              have HF6 := Lib.hid (HF5.out.then (hf5.out.mono (fun _ _ h => h.elim)))
              clear hka hfg hr2 hk2 hr3 hk3 hr4 hk4
              go_wp2_with fail
              refine C39b.out.mono ?_
              rintro e w6 ⟨x2, rfl, _, hx2, hps6, hf6⟩
              have hx2 : x2 = zeroT := hx2
              subst hx2
              unfold zeroT
              simp only [TaskD.val]
              have hfc : Fr (fun _ => False) w6 (w6.alloc (.cells #[.int .i64 0, .int .i64 0, .int .i64 0, .int .i64 0, .int .i64 0, .slice none 0 0, .int .i64 0, .int .i64 0] 61)) := (Fr.refl _ w6).alloc _
              have CR := Lib.hid (CREL.out _ (hps6.fr0 hfc))
              have HB7 := Lib.hid ((HB6.out.fr hf6 (fun hi => hi.2 rfl)).fr hfc (fun h => h))
              have HF7 := Lib.hid ((HF6.out.then (hf6.mono (fun i _ hi => hi.1))).then (hfc.mono (fun _ _ h => h.elim)))
              clear hps6 hf6 hfc
              go_wp2_with fail
              refine CR.out.mono ?_
              rintro e w8 ⟨rfl, hps8, hf8⟩
              have CS := Lib.hid (CSIG.out _ hps8)
              have HB8 := Lib.hid (HB7.out.fr hf8 (fun hi => hi.2 rfl))
              have HF8 := Lib.hid (HF7.out.then (hf8.mono (fun i _ hi => hi.1)))
              clear hps8 hf8
              go_wp2_with fail
              refine CS.out.mono ?_
              rintro e w9 ⟨rfl, hps9, hf9⟩
              have CD := Lib.hid (CSD.out _ hps9)
              have HB9 := Lib.hid (HB8.out.fr hf9 (fun hi => hi.2 rfl))
              have HF9 := Lib.hid (HF8.out.then (hf9.mono (fun i _ hi => hi.1)))
              clear hps9 hf9
              go_wp2_with fail
              refine CD.out.mono ?_
              rintro e w10 ⟨rfl, rfl⟩
              obtain ⟨z0, z1, z2, z3, z4, z5, z6, z7⟩ := tc HB9.out
              have b6 : (a6 == 2) = true := by simpa using HST.out
              go_wp2_with fail
              refine (live33_any _).mono ?_
              rintro e wL ⟨rfl, hfL⟩
              go_wp2
              go_ret
              exact ⟨rfl, HF9.out.then (hfL.mono (fun _ _ h => h.elim))⟩
        · have hK' : reapK K pid = K := by unfold reapK; rw [if_neg hr0]
          have C40 := Lib.hid (same40_true w5 _ _ T T2 HLA5.out HLB5.out (by rw [HTK.out, HTK2.out, hK']) (by omega))
          have b0 : (reapN K pid != 0) = true := by simpa using hr0
          generalize reapN K pid = r1 at *
          clear hK' hr0 HFX
          go_wp2_with fail
          refine C40.out.mono ?_
          rintro e w6 ⟨rfl, hf6⟩
          go_wp2_with fail
          refine (live33_any _).mono ?_
          rintro e wL ⟨rfl, hfL⟩
          go_wp2
          go_ret
          exact ⟨rfl, (HF5.out.then (hf6.mono (fun _ _ h => h.elim))).then (hfL.mono (fun _ _ h => h.elim))⟩

end Go.Proofs.Ytomoomopodihhaa
