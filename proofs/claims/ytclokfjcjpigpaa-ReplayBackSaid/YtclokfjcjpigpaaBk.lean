/-
  'ReplayBack': walked.
-/
import Derived.Test.YtclokfjcjpigpaaBkP
import Derived.Deep.DeepCutAuto
namespace Go.Proofs.Ytclokfjcjpigpaa
open Go.RowKit Go.Maps

set_option maxRecDepth 20000 in
set_option maxHeartbeats 4000000 in
theorem back5_any (w : World) (x : CredD) (hx : x.wf) (ep now : Int) (A : Option Addr) (cap : Nat) (l : List OpD) (h : Ops w w.heap.size A l) (hl : l.length ≤ maxLen) (hA : Nums w w.heap.size x.A x.ns) (hm : x.ns.length ≤ maxLen) :
    Calls Try.prog 5 #[.agg (backArg x ep now A l.length cap)] w fun e w' => e = .returned (.bool true) ∧ Below w.heap.size w w' := by
  have F1 := (((Fr.refl (fun _ => False) w).alloc (.cells (backArg x ep now A l.length cap) 50)).alloc (.cells x.cells 31)).drew
  have B1 := (Blk.new (w.alloc (.cells (backArg x ep now A l.length cap) 50)) 31 x.cells).fr (Fr.refl (fun _ => False) _).drew (fun h => h)
  have h8 := fun W (hW : Below w.heap.size w W) => small8_any W w.heap.size A cap l (h.below hW) hl 60 _ rfl
  have h18 := fun W b m1 m2 U K hc (hW : Below w.heap.size w W) => use18_any W w.heap.size b m1 m2 8 U K hc x hx now (hA.below hW) hW.size hm
  have h20 := fun W (hW : Below w.heap.size w W) => check20_any x w.heap.size W hW.size (hA.below hW) hm
  have h16 := fun W b m1 m2 U K hc => revoked16_any W b m1 m2 8 U K hc x hx
  have hk := fun U K hr => useR_back (most := 8) (U := U) (K := K) (x := x) (now := now) hr
  have hrv := fun K (ht : Taken K x.job ep) (hle : x.epoch ≤ ep) => ht.revoked hle
  have hck : chk x = if x.ok then 0 else 1 := rfl
  have hst := Taken.start (K := []) (job := x.job) (ep := ep)
  have h19 := fun W b m1 m2 hc => revoke19_any W b m1 m2 8 [] [] hc x.job ep
  generalize smallB l 60 = sm at *
  generalize chk x = ck at *
  generalize x.ok = ok at *
  obtain ⟨job, epoch, step, frm, unt, xA, xc, ns, cores⟩ := x
  simp only [backArg, CredD.cells, CredD.val] at *
  generalize (revokeR [] job ep).1 = ans at *
  generalize (revokeR [] job ep).2 = K1 at *
  have H8 := Lib.hid h8
  have H18 := Lib.hid h18
  have H20 := Lib.hid h20
  have H16 := Lib.hid h16
  have H19 := Lib.hid h19
  have HK := Lib.hid hk
  have HRV := Lib.hid hrv
  have HCK := Lib.hid hck
  have HST := Lib.hid hst
  have HO := Lib.hid h
  have HF1 := Lib.hid F1
  have hz : w.heap.size + 1 = (w.alloc (.cells #[.int .i64 job, .int .i64 epoch, .int .i64 step, .int .i64 frm, .int .i64 unt, .slice xA ns.length xc, .int .i64 cores, .int .i64 ep, .int .i64 now, .slice A l.length cap] 50)).heap.size := by simp
  rw [← hz] at B1
  have HBX := Lib.hid B1
  clear hz h8 h18 h20 h16 h19 hk hrv hck hst h hA hx F1 B1
  unfold maxLen at hl hm
  generalize ns.length = nl at *
  go_enter Try.func5, Try.ntmps5
  go_upto_region 1 with fail
  go_cut [3, 4, 5, 6] (fun s3 s4 s5 s6 wx => s3 = Value.pointer (some ⟨w.heap.size + 1, 0, none⟩) ∧ s4 = .int .i64 ep ∧ s5 = .int .i64 now ∧ s6 = .slice A l.length cap ∧ Hid (Blk wx (w.heap.size + 1) 31 #[.int .i64 job, .int .i64 epoch, .int .i64 step, .int .i64 frm, .int .i64 unt, .slice xA nl xc, .int .i64 cores]) ∧ Hid (Fr (fun _ => False) w wx))
  case first =>
    go_region
    all_goals (first | (go_step; go_meet; exact ⟨rfl, rfl, rfl, rfl, HBX.out, HF1.out⟩) | (go_wp2_with fail; go_meet; exact ⟨rfl, rfl, rfl, rfl, HBX.out, HF1.out⟩)); skip
  case rest =>
    obtain ⟨rfl, rfl, rfl, rfl, hbx, hfx⟩ := hcut
    have HB1 := hbx
    have L1 := hfx.out.below (Nat.le_refl _) (fun _ h => h.elim)
    have e1 : wc.cell? ⟨w.heap.size + 1, 1, none⟩ = some (.int .i64 epoch) := HB1.out.cell 1
    have e5 : wc.cell? ⟨w.heap.size + 1, 5, none⟩ = some (.slice xA nl xc) := HB1.out.cell 5
    have hg := HB1.out.lt
    have HL1 := Lib.hid L1
    clear hbx hfx HBX HF1 L1
    cases sm
    · go_wp2_with (first
        | (go_at_call 8; refine (H8.out _ HL1.out).mono ?_; rintro e w1 ⟨rfl, rfl⟩)
        | (go_at_call 9; refine (live_any _).mono ?_; rintro e w2 ⟨rfl, hb2⟩))
      go_ret
      exact ⟨rfl, below_step HL1.out (Fr.of_below (S := fun _ => False) hb2) (fun _ h => h.elim)⟩
    by_cases h20 : nl ≤ 20
    · by_cases hep : ep < epoch
      · go_wp2_with (first
          | (go_at_call 8; refine (H8.out _ HL1.out).mono ?_; rintro e w1 ⟨rfl, rfl⟩)
          | (go_at_call 9; refine (live_any _).mono ?_; rintro e w2 ⟨rfl, hb2⟩))
        go_ret
        exact ⟨rfl, below_step HL1.out (Fr.of_below (S := fun _ => False) hb2) (fun _ h => h.elim)⟩
      · by_cases ha : ans = 0
        · go_wp2_with (first
            | (go_at_call 8; refine (H8.out _ HL1.out).mono ?_; rintro e w1 ⟨rfl, rfl⟩)
            | (go_at_call 10; refine (new10_yes 8 _ (by omega) (by omega)).mono ?_; rintro e w2 ⟨rfl, hc2, hf2⟩; have B2 := HB1.out.fr hf2 (fun h => h); clear e1 e5; have q0 : w2.cell? ⟨w.heap.size + 1, 0, none⟩ = some (.int .i64 job) := B2.cell 0)
            | (go_at_call 19; refine (H19.out _ _ _ _ hc2).mono ?_; rintro e w3 ⟨rfl, hc3, hf3⟩))
          have L3 := Lib.hid (below_step (below_step HL1.out hf2 (fun _ h => h.elim)) hf3 (fun i h => by subst h; have := HL1.out.size; omega))
          have C3 := Lib.hid (show Cst w3 w.heap.size (wc.heap.size + 2) wc.heap.size (wc.heap.size + 1) 8 (fun _ K => Taken K job ep) from ⟨⟨[], K1, hc3, HST.out ha⟩, HL1.out.size, Nat.le_succ_of_le HL1.out.size, L3.out.size⟩)
          have B3 := Lib.hid (B2.fr hf3 (fun h => by omega))
          clear hc2 hc3 hf2 hf3 B2 q0 HB1 HL1 H8 HST H19
          generalize wc.heap.size = m at *
          go_loopw [8] (fun i wr => ∃ k : Nat, k ≤ l.length ∧ i = .int .i64 k ∧ Hid (Cst wr w.heap.size (m + 2) m (m + 1) 8 (fun _ K => Taken K job ep)) ∧ Hid (Below w.heap.size w wr) ∧ Hid (Blk wr (w.heap.size + 1) 31 #[.int .i64 job, .int .i64 epoch, .int .i64 step, .int .i64 frm, .int .i64 unt, .slice xA nl xc, .int .i64 cores])) (fun i _ => l.length - (intOf i).toNat)
          case atStart => exact ⟨0, Nat.zero_le _, rfl, C3, L3, B3⟩
          case round =>
            obtain ⟨k, hk, rfl, hst, hbw, hbk⟩ := hrel
            by_cases hlt : k < l.length
            · have hO2 := HO.out.below hbw.out
              obtain ⟨b, off, rfl, _, hc⟩ := hO2.at_ k hlt
              have hx := hO2.wf _ (List.getElem_mem hlt)
              have hA := hO2.nums _ (List.getElem_mem hlt)
              have hn := hO2.len _ (List.getElem_mem hlt)
              generalize l[k] = o at *
              have hu := fun (dd : Later wr) => Cst.use (Ψ := fun _ K => Taken K job ep) (hst.out.fr dd.fr) o.c hx o.now (hA.below (dd.fr.below hst.out.size (fun _ h => h.elim))) hn (fun _ _ h => h)
              have hr := fun (dd : Later wr) => Cst.revoke (Ψ := fun _ K => Taken K job ep) (hst.out.fr dd.fr) o.job o.epoch (fun _ _ h => h.revoke _ _)
              obtain ⟨d, ⟨ojob, oepoch, ostep, ofrm, ount, oA, oc, ons, ocores⟩, onow, j2, e2⟩ := o
              simp only [OpD.cells, CredD.val] at *
              have c0 := hc 0 _ rfl
              have c1 := Later.cell (hc 1 _ rfl)
              have c2 := Later.cell (hc 2 _ rfl)
              have c3 := Later.cell (hc 3 _ rfl)
              have c4 := Later.cell (hc 4 _ rfl)
              have c5 := Later.cell (hc 5 _ rfl)
              have c6 := Later.cell (hc 6 _ rfl)
              have c7 := Later.cell (hc 7 _ rfl)
              have c8 := Later.cell (hc 8 _ rfl)
              have c9 := Later.cell (hc 9 _ rfl)
              have c10 := Later.cell (hc 10 _ rfl)
              simp only [Nat.add_zero] at c0
              have HU := Lib.hid hu
              have HR := Lib.hid hr
              clear hc hu hr hx hA hn hO2
              by_cases hd : d = 1
              · clear c1 c2 c3 c4 c5 c6 c7 c8
                go_wp2_with fail
                refine wp_region_later_tail wr 11 (by kernel_rfl) (by kernel_rfl) (Fr.refl _ _) ?_
                simp only [List.take_succ_cons, List.take_zero, List.drop_succ_cons, List.drop_zero]
                repeat (go_big_quiet_step (fail))
                refine wpQuiet_nil ?_
                rintro _ ⟨dd, rfl⟩
                clear c9 c10
                go_wp2_with (go_at_call 19; refine (HR.out dd).mono ?_; rintro e w5 ⟨a5, rfl, hc5, hf5⟩)
                go_roundw
                case rel => exact ⟨k + 1, by omega, by go_num, hc5, below_step (below_step hbw.out dd.fr (fun _ h => h.elim)) hf5 (fun i h => by have := hst.out.h2; omega), (hbk.out.fr dd.fr (fun h => h)).fr hf5 (fun h => by omega)⟩
                case measure => simp [intOf]; omega
              · clear c9 c10
                go_wp2_with fail
                refine wp_region_later_tail wr 11 (by kernel_rfl) (by kernel_rfl) (Fr.refl _ _) ?_
                simp only [List.take_succ_cons, List.take_zero, List.drop_succ_cons, List.drop_zero]
                repeat (go_big_quiet_step (fail))
                refine wpQuiet_nil ?_
                rintro _ ⟨dd, rfl⟩
                clear c1 c2 c3 c4 c5 c6 c7 c8
                go_wp2_with (go_at_call 18; refine (HU.out dd).mono ?_; rintro e w5 ⟨a5, rfl, hc5, hf5⟩)
                go_roundw
                case rel => exact ⟨k + 1, by omega, by go_num, hc5, below_step (below_step hbw.out dd.fr (fun _ h => h.elim)) hf5 (fun i h => by have := hst.out.h1; omega), (hbk.out.fr dd.fr (fun h => h)).fr hf5 (fun h => by omega)⟩
                case measure => simp [intOf]; omega
            · obtain rfl : k = l.length := by omega
              obtain ⟨U, K, hc, ht⟩ := hst.out.ex
              have hr := HRV.out K ht (by omega)
              obtain ⟨hne, hor⟩ := HK.out U K hr
              have k18 := H18.out wr _ _ _ U K hc hbw.out
              have k16 := fun W b m1 m2 U hc => H16.out W b m1 m2 U K hc
              rw [hr] at k16
              generalize (useR 8 U K ⟨job, epoch, step, frm, unt, xA, xc, ns, cores⟩ now).1 = a2 at *
              generalize (useR 8 U K ⟨job, epoch, step, frm, unt, xA, xc, ns, cores⟩ now).2 = U2 at *
              have K16 := Lib.hid k16
              have K18 := Lib.hid k18
              have hh1 := hst.out.h1
              have hck := HCK.out
              clear k16 k18 hc ht hr HK HRV HCK
              have hnb : (a2 != 0) = true := by simpa using hne
              have f0 := fun i => hbk.out.cell i
              have HWB := Lib.hid (fun (w5 w6 : World) hf5 hf6 => below_step (S := fun _ => False) (below_step (S := fun k => k = m) (w' := w5) hbw.out hf5 (fun i h => by omega)) (w' := w6) hf6 (fun _ h => h.elim))
              have HBB := Lib.hid (fun (w5 : World) hf5 => hbk.out.fr (S := fun k => k = m) (w' := w5) hf5 (fun h => by omega))
              cases ok
              · simp only [Bool.false_eq_true, ↓reduceIte] at hck
                subst hck
                go_wp2_with (first
                  | (go_at_call 18; refine K18.out.mono ?_; rintro e w5 ⟨rfl, hc5, hf5⟩; have B5 := HBB.out _ hf5; clear f0; have f5 := fun i => B5.cell i)
                  | (go_at_call 16; refine (K16.out _ _ _ _ _ hc5).mono ?_; rintro e w6 ⟨rfl, hf6⟩; have B6 := B5.fr hf6 (fun h => h); clear f5; have f6 := fun i => B6.cell i)
                  | (go_at_call 20; refine (H20.out _ (HWB.out _ _ hf5 hf6)).mono ?_; rintro e w7 ⟨rfl, hb7⟩)
                  | (go_at_call 9; refine (live_any _).mono ?_; rintro e w8 ⟨rfl, hb8⟩))
                go_ret
                exact ⟨by first | rfl | (rw [hnb]; rfl), below_step (below_step (HWB.out _ _ hf5 hf6) (Fr.of_below (S := fun _ => False) hb7) (fun _ h => h.elim)) (Fr.of_below (S := fun _ => False) hb8) (fun _ h => h.elim)⟩
              · simp only [↓reduceIte] at hck
                subst hck
                by_cases hun : unt ≤ now
                · go_wp2_with (first
                    | (go_at_call 18; refine K18.out.mono ?_; rintro e w5 ⟨rfl, hc5, hf5⟩; have B5 := HBB.out _ hf5; clear f0; have f5 := fun i => B5.cell i)
                    | (go_at_call 16; refine (K16.out _ _ _ _ _ hc5).mono ?_; rintro e w6 ⟨rfl, hf6⟩; have B6 := B5.fr hf6 (fun h => h); clear f5; have f6 := fun i => B6.cell i)
                    | (go_at_call 20; refine (H20.out _ (HWB.out _ _ hf5 hf6)).mono ?_; rintro e w7 ⟨rfl, hb7⟩; have B7 := B6.fr (Fr.of_below (S := fun _ => False) hb7) (fun h => h); clear f6; have f7 := fun i => B7.cell i)
                    | (go_at_call 9; refine (live_any _).mono ?_; rintro e w8 ⟨rfl, hb8⟩))
                  go_ret
                  exact ⟨by first | rfl | (rw [hnb]; rfl), below_step (below_step (HWB.out _ _ hf5 hf6) (Fr.of_below (S := fun _ => False) hb7) (fun _ h => h.elim)) (Fr.of_below (S := fun _ => False) hb8) (fun _ h => h.elim)⟩
                · obtain rfl : a2 = 11 := by
                    rcases hor with h | h | h
                    · cases h
                    · exact absurd h hun
                    · exact h
                  go_wp2_with (first
                    | (go_at_call 18; refine K18.out.mono ?_; rintro e w5 ⟨rfl, hc5, hf5⟩; have B5 := HBB.out _ hf5; clear f0; have f5 := fun i => B5.cell i)
                    | (go_at_call 16; refine (K16.out _ _ _ _ _ hc5).mono ?_; rintro e w6 ⟨rfl, hf6⟩; have B6 := B5.fr hf6 (fun h => h); clear f5; have f6 := fun i => B6.cell i)
                    | (go_at_call 20; refine (H20.out _ (HWB.out _ _ hf5 hf6)).mono ?_; rintro e w7 ⟨rfl, hb7⟩; have B7 := B6.fr (Fr.of_below (S := fun _ => False) hb7) (fun h => h); clear f6; have f7 := fun i => B7.cell i)
                    | (go_at_call 9; refine (live_any _).mono ?_; rintro e w8 ⟨rfl, hb8⟩))
                  go_ret
                  exact ⟨rfl, below_step (below_step (HWB.out _ _ hf5 hf6) (Fr.of_below (S := fun _ => False) hb7) (fun _ h => h.elim)) (Fr.of_below (S := fun _ => False) hb8) (fun _ h => h.elim)⟩
        · go_wp2_with (first
            | (go_at_call 8; refine (H8.out _ HL1.out).mono ?_; rintro e w1 ⟨rfl, rfl⟩)
            | (go_at_call 10; refine (new10_yes 8 _ (by omega) (by omega)).mono ?_; rintro e w2 ⟨rfl, hc2, hf2⟩; have B2 := HB1.out.fr hf2 (fun h => h); clear e1 e5; have q0 : w2.cell? ⟨w.heap.size + 1, 0, none⟩ = some (.int .i64 job) := B2.cell 0)
            | (go_at_call 19; refine (H19.out _ _ _ _ hc2).mono ?_; rintro e w3 ⟨rfl, hc3, hf3⟩)
            | (go_at_call 9; refine (live_any _).mono ?_; rintro e w4 ⟨rfl, hb4⟩))
          go_ret
          exact ⟨rfl, below_step (below_step (below_step HL1.out hf2 (fun _ h => h.elim)) hf3 (fun i h => by subst h; have := HL1.out.size; omega)) (Fr.of_below (S := fun _ => False) hb4) (fun _ h => h.elim)⟩
    · go_wp2_with (first
        | (go_at_call 8; refine (H8.out _ HL1.out).mono ?_; rintro e w1 ⟨rfl, rfl⟩)
        | (go_at_call 9; refine (live_any _).mono ?_; rintro e w2 ⟨rfl, hb2⟩))
      go_ret
      exact ⟨rfl, below_step HL1.out (Fr.of_below (S := fun _ => False) hb2) (fun _ h => h.elim)⟩

end Go.Proofs.Ytclokfjcjpigpaa
