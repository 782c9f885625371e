/-
  'ReplayOnce': walked.
-/
import Derived.Test.YtclokfjcjpigpaaRmP
import Derived.Deep.DeepCutAuto
namespace Go.Proofs.Ytclokfjcjpigpaa
open Go.RowKit Go.Maps

def onceArg (most : Int) (x : CredD) (now : Int) (A : Option Addr) (n cap : Nat) : Array Value := #[.int .i64 most, .int .i64 x.job, .int .i64 x.epoch, .int .i64 x.step, .int .i64 x.frm, .int .i64 x.until_, .slice x.A x.ns.length x.c, .int .i64 x.cores, .int .i64 now, .slice A n cap]

set_option maxRecDepth 20000 in
set_option maxHeartbeats 4000000 in
theorem once4_any (w : World) (most : Int) (x : CredD) (hx : x.wf) (now : Int) (A : Option Addr) (cap : Nat) (l : List OpD) (h : Ops w w.heap.size A l) (hl : l.length ≤ maxLen) (hA : Nums w w.heap.size x.A x.ns) (hm : x.ns.length ≤ maxLen) :
    Calls Try.prog 4 #[.agg (onceArg most x now A l.length cap)] w fun e w' => e = .returned (.bool true) ∧ Below w.heap.size w w' := by
  have F1 := (((Fr.refl (fun _ => False) w).alloc (.cells (onceArg most x now A l.length cap) 44)).alloc (.cells x.cells 31)).drew
  have B1 := (Blk.new (w.alloc (.cells (onceArg most x now A l.length cap) 44)) 31 x.cells).fr (Fr.refl (fun _ => False) _).drew (fun h => h)
  have h8 := fun W (hW : Below w.heap.size w W) => small8_any W w.heap.size A cap l (h.below hW) hl 60 _ rfl
  have h18 := fun W b m1 m2 hc (hW : Below w.heap.size w W) => use18_any W w.heap.size b m1 m2 most [] [] hc x hx now (hA.below hW) hW.size hm
  have h14 := fun W b m1 m2 U K now hc => used14_any W b m1 m2 most U K hc x hx now
  have hst' := OnceP.start (x := x) (now := now) (most := most) (U := []) (K := [])
  have hno' := fun (y : CredD) (nk nk' : Int) U K (hP : OnceP x nk U K) (hle : nk ≤ nk') hk hlt => hP.not_ok (y := y) (now' := nk') (most := most) hle hk hlt
  have hkey : x.key = (x.job, x.epoch, x.step) := rfl
  have hus' := fun (nk : Int) U K (hP : OnceP x nk U K) hlt => hP.used hlt
  have hPu := fun (y : CredD) (nk nk' : Int) U K (hP : OnceP x nk U K) (hle : nk ≤ nk') => hP.use (y := y) (now' := nk') (most := most) hle
  have hPl := fun (nk nk' : Int) U K K' (hP : OnceP x nk U K) (hle : nk ≤ nk') => hP.later (K' := K') (now' := nk') hle
  generalize OnceP x = P at *
  generalize smallB l 60 = sm at *
  obtain ⟨job, epoch, step, frm, unt, xA, xc, ns, cores⟩ := x
  simp only [onceArg, CredD.cells, CredD.val] at *
  generalize (useR most [] [] ⟨job, epoch, step, frm, unt, xA, xc, ns, cores⟩ now).1 = a0 at *
  generalize (useR most [] [] ⟨job, epoch, step, frm, unt, xA, xc, ns, cores⟩ now).2 = U0 at *
  have H8 := Lib.hid h8
  have H18 := Lib.hid h18
  have H14 := Lib.hid h14
  have HST := Lib.hid hst'
  have HNO := Lib.hid hno'
  have HUS := Lib.hid hus'
  have HPU := Lib.hid hPu
  have HPL := Lib.hid hPl
  have HKEY := Lib.hid hkey
  have HO := Lib.hid h
  have HF1 := Lib.hid F1
  have hz : w.heap.size + 1 = (w.alloc (.cells #[.int .i64 most, .int .i64 job, .int .i64 epoch, .int .i64 step, .int .i64 frm, .int .i64 unt, .slice xA ns.length xc, .int .i64 cores, .int .i64 now, .slice A l.length cap] 44)).heap.size := by simp
  rw [← hz] at B1
  have HBX := Lib.hid B1
  clear hz h8 h18 h14 hst' hno' hus' hPu hPl hkey h hA hx F1 B1
  unfold maxLen at hl hm
  generalize ns.length = nl at *
  go_enter Try.func4, Try.ntmps4
  go_upto_region 1 with fail
  go_cut [3, 4, 5, 6] (fun s3 s4 s5 s6 wx => s3 = .int .i64 most ∧ s4 = Value.pointer (some ⟨w.heap.size + 1, 0, none⟩) ∧ s5 = .int .i64 now ∧ s6 = .slice A l.length cap ∧ Hid (Blk wx (w.heap.size + 1) 31 #[.int .i64 job, .int .i64 epoch, .int .i64 step, .int .i64 frm, .int .i64 unt, .slice xA nl xc, .int .i64 cores]) ∧ Hid (Fr (fun _ => False) w wx))
  case first =>
    go_region
    all_goals (first | (go_step; go_meet; exact ⟨rfl, rfl, rfl, rfl, HBX.out, HF1.out⟩) | (go_wp2_with fail; go_meet; exact ⟨rfl, rfl, rfl, rfl, HBX.out, HF1.out⟩)); skip
  case rest =>
    obtain ⟨rfl, rfl, rfl, rfl, hbx, hfx⟩ := hcut
    have HB1 := hbx
    have L1 := hfx.out.below (Nat.le_refl _) (fun _ h => h.elim)
    have e5 : wc.cell? ⟨w.heap.size + 1, 5, none⟩ = some (.slice xA nl xc) := HB1.out.cell 5
    have hg := HB1.out.lt
    have HL1 := Lib.hid L1
    clear hbx hfx HBX HF1 L1
    cases sm
    · go_wp2_with (first
        | (go_at_call 8; refine (H8.out _ HL1.out).mono ?_; rintro e w1 ⟨rfl, rfl⟩)
        | (go_at_call 9; refine (live_any _).mono ?_; rintro e w2 ⟨rfl, hb2⟩))
      go_ret
      exact ⟨rfl, below_step HL1.out (Fr.of_below (S := fun _ => False) hb2) (fun _ h => h.elim)⟩
    by_cases h20 : nl ≤ 20
    · by_cases hmm : most < 1 ∨ 64 < most
      · go_wp2_with (first
          | (go_at_call 8; refine (H8.out _ HL1.out).mono ?_; rintro e w1 ⟨rfl, rfl⟩)
          | (go_at_call 11; refine (new11_no most _ hmm).mono ?_; rintro e w1 ⟨rfl, rfl⟩)
          | (go_at_call 9; refine (live_any _).mono ?_; rintro e w2 ⟨rfl, hb2⟩))
        go_ret
        exact ⟨rfl, below_step HL1.out (Fr.of_below (S := fun _ => False) hb2) (fun _ h => h.elim)⟩
      · have h1 : 1 ≤ most := by omega
        have h64 : most ≤ 64 := by omega
        clear hmm
        by_cases ha : a0 = 0
        · go_wp2_with (first
            | (go_at_call 8; refine (H8.out _ HL1.out).mono ?_; rintro e w1 ⟨rfl, rfl⟩)
            | (go_at_call 11; refine (new11_yes most _ w.heap.size HL1.out.size h1 h64).mono ?_; rintro e w2 ⟨rfl, hr2, hf2⟩; clear hr2 e5)
            | (go_at_call 10; refine (new10_yes most _ h1 h64).mono ?_; rintro e w3 ⟨rfl, hc3, hf3⟩; have B3 := (HB1.out.fr hf2 (fun h => h)).fr hf3 (fun h => h); have q3 := fun i => B3.cell i)
            | (go_at_call 18; refine (H18.out _ _ _ _ hc3 (below_step (below_step HL1.out hf2 (fun _ h => h.elim)) hf3 (fun _ h => h.elim))).mono ?_; rintro e w4 ⟨rfl, hc4, hf4⟩))
          have hsz := hf2.size
          have hsz1 := HL1.out.size
          have L4 := Lib.hid (below_step (below_step (below_step HL1.out hf2 (fun _ h => h.elim)) hf3 (fun _ h => h.elim)) hf4 (fun i h => by omega))
          have C4 := Lib.hid (show Cst w4 w.heap.size (w2.heap.size + 2) w2.heap.size (w2.heap.size + 1) most (P now) from ⟨⟨U0, [], hc4, HST.out ha⟩, by omega, by omega, L4.out.size⟩)
          have B4 := Lib.hid (B3.fr hf4 (fun h => by omega))
          have hgm : w.heap.size + 1 < w2.heap.size := by omega
          clear hc3 hc4 hf2 hf3 hf4 HB1 HL1 H8 H18 HST hsz hsz1 hg B3 q3
          generalize w2.heap.size = m at *
          go_loopw [5, 8] (fun nw i wr => ∃ (k : Nat) (nk : Int), k ≤ l.length ∧ nw = .int .i64 nk ∧ i = .int .i64 k ∧ Hid (Cst wr w.heap.size (m + 2) m (m + 1) most (P nk)) ∧ Hid (Below w.heap.size w wr) ∧ Hid (Blk wr (w.heap.size + 1) 31 #[.int .i64 job, .int .i64 epoch, .int .i64 step, .int .i64 frm, .int .i64 unt, .slice xA nl xc, .int .i64 cores])) (fun _ i _ => l.length - (intOf i).toNat)
          case atStart => exact ⟨0, now, Nat.zero_le _, rfl, rfl, C4, L4, B4⟩
          case round =>
            obtain ⟨k, nk, hk, rfl, rfl, hst, hbw, hbk⟩ := hrel
            by_cases hlt : k < l.length
            · have hO2 := HO.out.below hbw.out
              obtain ⟨b, off, rfl, hbB, hc⟩ := hO2.at_ k hlt
              have hx := hO2.wf _ (List.getElem_mem hlt)
              have hA := hO2.nums _ (List.getElem_mem hlt)
              have hn := hO2.len _ (List.getElem_mem hlt)
              generalize l[k] = o at *
              have hoff := hst.out.off
              have hh1 := hst.out.h1
              obtain ⟨U, K, hcc, hP⟩ := hst.out.ex
              have F2 := (Fr.refl (fun _ => False) wr).alloc (.cells o.cells 33)
              have B2 := Blk.new wr 33 o.cells
              have S2 := hst.out.fr F2
              have A2 := hA.below (F2.below hst.out.size (fun _ h => h.elim))
              have k18 := use18_any _ w.heap.size (m + 2) m (m + 1) most U K (hcc.fr F2 (fun h => h) (fun h => h) (fun h => h)) o.c hx o.now A2 S2.size hn
              have k19 := fun hle => Cst.revoke (Ψ := P o.now) S2 o.job o.epoch (fun U' K' hP' => HPL.out nk o.now U' K' _ hP' hle)
              have hpu := fun hle => HPU.out o.c nk o.now U K hP hle
              have hno := fun hle hk hlt => HNO.out o.c nk o.now U K hP hle hk hlt
              have hpl := fun hle => (show Cst wr w.heap.size (m + 2) m (m + 1) most (P o.now) from ⟨⟨U, K, hcc, HPL.out nk o.now U K K hP hle⟩, hst.out.h1, hst.out.h2, hst.out.size⟩)
              have hkk : o.c.key = (o.c.job, o.c.epoch, o.c.step) := rfl
              rw [hkk, HKEY.out] at hno
              obtain ⟨d, ⟨ojob, oepoch, ostep, ofrm, ount, oA, oc, ons, ocores⟩, onow, j2, e2⟩ := o
              dsimp only [OpD.cells, CredD.val] at hc F2 B2 S2 k18 k19 hno hpu hpl hn
              generalize (useR most U K ⟨ojob, oepoch, ostep, ofrm, ount, oA, oc, ons, ocores⟩ onow).1 = a5 at *
              generalize (useR most U K ⟨ojob, oepoch, ostep, ofrm, ount, oA, oc, ons, ocores⟩ onow).2 = U5 at *
              have c0 := hc 0 _ rfl
              have c1 := hc 1 _ rfl
              have c2 := hc 2 _ rfl
              have c3 := hc 3 _ rfl
              have c4 := hc 4 _ rfl
              have c5 := hc 5 _ rfl
              have c6 := hc 6 _ rfl
              have c7 := hc 7 _ rfl
              have c8 := hc 8 _ rfl
              have c9 := hc 9 _ rfl
              have c10 := hc 10 _ rfl
              simp only [Nat.add_zero] at c0
              have K18 := Lib.hid k18
              have K19 := Lib.hid k19
              have KNO := Lib.hid hno
              have KPU := Lib.hid hpu
              have KF2 := Lib.hid F2
              have KB2 := Lib.hid B2
              have KS2 := Lib.hid S2
              have KC := Lib.hid hcc
              clear hc hx hA hn hO2 k18 k19 hno hpu F2 B2 S2 A2 hpl hP hcc hkk
              by_cases hlate : onow < nk
              · go_wp2_with fail
                go_roundw
                case rel => exact ⟨k + 1, nk, by omega, by go_num, by go_num, KS2.out, below_step hbw.out KF2.out (fun _ h => h.elim), hbk.out.fr KF2.out (fun h => h)⟩
                case measure => simp [intOf]; omega
              · have hle : nk ≤ onow := by omega
                by_cases hd : d = 1
                · subst hd
                  go_wp2_with (go_at_call 19; refine (K19.out hle).mono ?_; rintro e w5 ⟨a6, rfl, hc5, hf5⟩)
                  go_roundw
                  case rel => exact ⟨k + 1, onow, by omega, by go_num, by go_num, hc5, below_step (below_step hbw.out KF2.out (fun _ h => h.elim)) hf5 (fun i h => by have := hst.out.h2; omega), (hbk.out.fr KF2.out (fun h => h)).fr hf5 (fun h => by omega)⟩
                  case measure => simp [intOf]; omega
                · have hKU := KPU.out hle
                  have HU14 := Lib.hid (fun W hc => H14.out W (m + 2) m (m + 1) U5 K onow hc)
                  have HUT := Lib.hid (fun hlt => HUS.out onow U5 K hKU hlt)
                  have hq : a5 ≠ 0 ∨ (a5 = 0 ∧ ojob ≠ job) ∨ (a5 = 0 ∧ ojob = job ∧ oepoch ≠ epoch) ∨ (a5 = 0 ∧ ojob = job ∧ oepoch = epoch ∧ ostep ≠ step) ∨ (a5 = 0 ∧ ojob = job ∧ oepoch = epoch ∧ ostep = step ∧ ¬ onow < unt) := by
                    by_cases e0 : a5 = 0
                    · by_cases e1 : ojob = job
                      · by_cases e2 : oepoch = epoch
                        · by_cases e3 : ostep = step
                          · by_cases e4 : onow < unt
                            · exact absurd e0 (KNO.out hle (by rw [e1, e2, e3]) e4)
                            · exact Or.inr (Or.inr (Or.inr (Or.inr ⟨e0, e1, e2, e3, e4⟩)))
                          · exact Or.inr (Or.inr (Or.inr (Or.inl ⟨e0, e1, e2, e3⟩)))
                        · exact Or.inr (Or.inr (Or.inl ⟨e0, e1, e2⟩))
                      · exact Or.inr (Or.inl ⟨e0, e1⟩)
                    · exact Or.inl e0
                  have HKU := Lib.hid hKU
                  have HQ := Lib.hid hq
                  clear hKU hq
                  go_upto_region 18 with ((go_at_call 18; refine K18.out.mono ?_; rintro e w5 ⟨rfl, hc5, hf5⟩; have BO := KB2.out.fr hf5 (fun h => by omega); have BX := (hbk.out.fr KF2.out (fun h => h)).fr hf5 (fun h => by omega); have o5 := fun i => BO.cell i; have x5 := fun i => BX.cell i))
                  go_cut [10, 107] (fun _ s107 wx => s107 = .bool false ∧ wx = w5)
                  case first =>
                    rcases HQ.out with q1 | ⟨q1, q2⟩ | ⟨q1, q2, q3⟩ | ⟨q1, q2, q3, q4⟩ | ⟨q1, q2, q3, q4, q5⟩
                    all_goals (go_wp2_with fail; go_meet; exact ⟨by first | rfl | (simp only [*]; done) | simp_all, rfl⟩)
                  case rest =>
                    obtain ⟨rfl, rfl⟩ := hcut
                    by_cases hun : onow < unt
                    · have h14' := HU14.out
                      rw [HUT.out hun] at h14'
                      have HU15 := Lib.hid h14'
                      clear h14' HU14 HUT
                      go_wp2_with (go_at_call 14; refine (HU15.out _ hc5).mono ?_; rintro e w6 ⟨rfl, hf6⟩)
                      go_roundw
                      case rel => exact ⟨k + 1, onow, by omega, by go_num, by go_num, ⟨⟨U5, K, hc5.fr hf6 (fun h => h) (fun h => h) (fun h => h), HKU.out⟩, hst.out.h1, hst.out.h2, Nat.le_trans KS2.out.size (Nat.le_trans hf5.size hf6.size)⟩, below_step (below_step (below_step hbw.out KF2.out (fun _ h => h.elim)) hf5 (fun i h => by omega)) hf6 (fun _ h => h.elim), BX.fr hf6 (fun h => h)⟩
                      case measure => simp [intOf]; omega
                    · clear HU14 HUT
                      go_wp2_with fail
                      go_roundw
                      case rel => exact ⟨k + 1, onow, by omega, by go_num, by go_num, ⟨⟨U5, K, hc5, HKU.out⟩, hst.out.h1, hst.out.h2, Nat.le_trans KS2.out.size hf5.size⟩, below_step (below_step hbw.out KF2.out (fun _ h => h.elim)) hf5 (fun i h => by omega), BX⟩
                      case measure => simp [intOf]; omega
            · obtain rfl : k = l.length := by omega
              obtain ⟨U, K, hc, _⟩ := hst.out.ex
              have hlu := hc.lenU
              go_wp2_with (first
                | (go_at_call 13; refine (len13_any _ _ _ _ _ _ _ hc).mono ?_; rintro e w9 ⟨rfl, rfl⟩)
                | (go_at_call 9; refine (live_any _).mono ?_; rintro e w8 ⟨rfl, hb8⟩))
              go_ret
              exact ⟨rfl, below_step hbw.out (Fr.of_below (S := fun _ => False) hb8) (fun _ h => h.elim)⟩
        · go_wp2_with (first
            | (go_at_call 8; refine (H8.out _ HL1.out).mono ?_; rintro e w1 ⟨rfl, rfl⟩)
            | (go_at_call 11; refine (new11_yes most _ w.heap.size HL1.out.size h1 h64).mono ?_; rintro e w2 ⟨rfl, hr2, hf2⟩; clear hr2 e5)
            | (go_at_call 10; refine (new10_yes most _ h1 h64).mono ?_; rintro e w3 ⟨rfl, hc3, hf3⟩; have B3 := (HB1.out.fr hf2 (fun h => h)).fr hf3 (fun h => h); have q3 := fun i => B3.cell i)
            | (go_at_call 18; refine (H18.out _ _ _ _ hc3 (below_step (below_step HL1.out hf2 (fun _ h => h.elim)) hf3 (fun _ h => h.elim))).mono ?_; rintro e w4 ⟨rfl, hc4, hf4⟩)
            | (go_at_call 9; refine (live_any _).mono ?_; rintro e w8 ⟨rfl, hb8⟩))
          have hsz := hf2.size
          have hsz1 := HL1.out.size
          go_ret
          exact ⟨rfl, below_step (below_step (below_step (below_step HL1.out hf2 (fun _ h => h.elim)) hf3 (fun _ h => h.elim)) hf4 (fun i h => by omega)) (Fr.of_below (S := fun _ => False) hb8) (fun _ h => h.elim)⟩
    · go_wp2_with (first
        | (go_at_call 8; refine (H8.out _ HL1.out).mono ?_; rintro e w1 ⟨rfl, rfl⟩)
        | (go_at_call 9; refine (live_any _).mono ?_; rintro e w2 ⟨rfl, hb2⟩))
      go_ret
      exact ⟨rfl, below_step HL1.out (Fr.of_below (S := fun _ => False) hb2) (fun _ h => h.elim)⟩

end Go.Proofs.Ytclokfjcjpigpaa
