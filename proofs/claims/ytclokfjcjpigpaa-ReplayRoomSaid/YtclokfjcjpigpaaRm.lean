/-
  'ReplayRoom': walked.
-/
import Derived.Test.YtclokfjcjpigpaaRmP
namespace Go.Proofs.Ytclokfjcjpigpaa
open Go.RowKit Go.Maps

set_option maxHeartbeats 4000000 in
theorem room7_any (w : World) (most : Int) (x : CredD) (hx : x.wf) (A : Option Addr) (cap : Nat) (l : List OpD) (h : Ops w w.heap.size A l) (hl : l.length ≤ maxLen) (hA : Nums w w.heap.size x.A x.ns) (hm : x.ns.length ≤ maxLen) :
    Calls Try.prog 7 #[.int .i64 most, .slice A l.length cap, x.val] w fun e w' => e = .returned (.bool true) ∧ Below w.heap.size w w' := by
  have F1 := (Fr.refl (fun _ => False) w).alloc (.cells x.cells 31)
  have B1 := Blk.new w 31 x.cells
  have h8 := fun W (hW : Below w.heap.size w W) => small8_any W w.heap.size A cap l (h.below hW) hl 60 _ rfl
  have h18 := fun W b m1 m2 U K now hc (hW : Below w.heap.size w W) => use18_any W w.heap.size b m1 m2 most U K hc x hx now (hA.below hW) hW.size hm
  have h20 := fun W (hW : Below w.heap.size w W) => check20_any x w.heap.size W hW.size (hA.below hW) hm
  have hck : chk x = if x.ok then 0 else 1 := rfl
  have hlast := fun la U K (hr : Room la U K) hok hla hm => hr.last (most := most) x hok hla hm
  generalize smallB l 60 = sm at *
  generalize chk x = ck at *
  generalize x.ok = ok at *
  obtain ⟨job, epoch, step, frm, unt, xA, xc, ns, cores⟩ := x
  simp only [CredD.cells, CredD.val] at *
  have H8 := Lib.hid h8
  have H18 := Lib.hid h18
  have H20 := Lib.hid h20
  have HCK := Lib.hid hck
  have HLA := Lib.hid hlast
  have HO := Lib.hid h
  clear h8 h18 h20 hck hlast h hA hx
  unfold maxLen at hl hm
  generalize ns.length = nl at *
  have HF1 := Lib.hid F1
  have HB1 := Lib.hid B1
  clear F1 B1
  go_enter Try.func7, Try.ntmps7
  have F1 := HF1.out
  have B1 := HB1.out
  have L1 := F1.below (Nat.le_refl _) (fun _ h => h.elim)
  have hg := B1.lt
  have HL1 := Lib.hid L1
  clear F1 B1 L1
  cases sm
  · go_wp2_with (first
      | (go_at_call 8; refine (H8.out _ HL1.out).mono ?_; rintro e w1 ⟨rfl, rfl⟩)
      | (go_at_call 9; refine (live_any _).mono ?_; rintro e w2 ⟨rfl, hb2⟩))
    go_ret
    exact ⟨rfl, below_step HL1.out (Fr.of_below (S := fun _ => False) hb2) (fun _ h => h.elim)⟩
  by_cases h20 : nl ≤ 20
  · by_cases hmm : most < 1 ∨ 64 < most
    · go_wp2_with (first
        | (go_at_call 8; refine (H8.out _ HL1.out).mono ?_; rintro e w1 ⟨rfl, rfl⟩)
        | (go_at_call 11; refine (new11_no most _ hmm).mono ?_; rintro e w1 ⟨rfl, rfl⟩)
        | (go_at_call 9; refine (live_any _).mono ?_; rintro e w2 ⟨rfl, hb2⟩))
      go_ret
      exact ⟨rfl, below_step HL1.out (Fr.of_below (S := fun _ => False) hb2) (fun _ h => h.elim)⟩
    · have h1 : 1 ≤ most := by omega
      have h64 : most ≤ 64 := by omega
      clear hmm
      go_wp2_with (first
        | (go_at_call 8; refine (H8.out _ HL1.out).mono ?_; rintro e w1 ⟨rfl, rfl⟩)
        | (go_at_call 11; refine (new11_yes most _ w.heap.size HL1.out.size h1 h64).mono ?_; rintro e w2 ⟨rfl, hr2, hf2⟩; clear hr2)
        | (go_at_call 10; refine (new10_yes most _ h1 h64).mono ?_; rintro e w3 ⟨rfl, hc3, hf3⟩))
      have hsz := hf2.size
      have L3 := Lib.hid (below_step (below_step HL1.out hf2 (fun _ h => h.elim)) hf3 (fun _ h => h.elim))
      have C3 := Lib.hid (show Cst w3 w.heap.size (w2.heap.size + 2) w2.heap.size (w2.heap.size + 1) most (Room 0) from ⟨⟨[], [], hc3, rfl, by simp⟩, by omega, by omega, L3.out.size⟩)
      have B3 := Lib.hid ((HB1.out.fr hf2 (fun h => h)).fr hf3 (fun h => h))
      have hgm : w.heap.size < w2.heap.size := by omega
      clear hc3 hf2 hf3 HB1 HF1 HL1 H8 hsz hg
      generalize w2.heap.size = m at *
      go_loopw [8, 9] (fun sl i wr => ∃ (k : Nat) (la : Int), k ≤ l.length ∧ sl = .int .i64 la ∧ i = .int .i64 k ∧ Hid (Cst wr w.heap.size (m + 2) m (m + 1) most (Room la)) ∧ Hid (Below w.heap.size w wr) ∧ Hid (Blk wr w.heap.size 31 #[.int .i64 job, .int .i64 epoch, .int .i64 step, .int .i64 frm, .int .i64 unt, .slice xA nl xc, .int .i64 cores])) (fun _ i _ => l.length - (intOf i).toNat)
      case atStart => exact ⟨0, 0, Nat.zero_le _, rfl, rfl, C3, L3, B3⟩
      case round =>
        obtain ⟨k, la, hk, rfl, rfl, hst, hbw, hbk⟩ := hrel
        by_cases hlt : k < l.length
        · have hO2 := HO.out.below hbw.out
          obtain ⟨b, off, rfl, hbB, hc⟩ := hO2.at_ k hlt
          have hx := hO2.wf _ (List.getElem_mem hlt)
          have hA := hO2.nums _ (List.getElem_mem hlt)
          have hn := hO2.len _ (List.getElem_mem hlt)
          generalize l[k] = o at *
          have hu := fun (dd : Later wr) => Cst.use (Ψ := Room (max la o.c.until_)) (hst.out.fr dd.fr) o.c hx o.now (hA.below (dd.fr.below hst.out.size (fun _ h => h.elim))) hn (fun _ _ h => h.use o.c)
          obtain ⟨d, ⟨ojob, oepoch, ostep, ofrm, ount, oA, oc, ons, ocores⟩, onow, j2, e2⟩ := o
          simp only [OpD.cells, CredD.val] at *
          have c0 := hc 0 _ rfl
          simp only [Nat.add_zero] at c0
          have HU := Lib.hid hu
          by_cases hd : d = 0
          · have c1 := Later.cell (hc 1 _ rfl)
            have c2 := Later.cell (hc 2 _ rfl)
            have c3 := Later.cell (hc 3 _ rfl)
            have c4 := Later.cell (hc 4 _ rfl)
            have c5 := Later.cell (hc 5 _ rfl)
            have c6 := Later.cell (hc 6 _ rfl)
            have c7 := Later.cell (hc 7 _ rfl)
            have c8 := Later.cell (hc 8 _ rfl)
            have q5 := Lib.hid (hc 5 _ rfl)
            clear hc hu hx hA hn hO2
            go_wp2_with fail
            refine wp_region_later_tail wr 11 (by kernel_rfl) (by kernel_rfl) (Fr.refl _ _) ?_
            simp only [List.take_succ_cons, List.take_zero, List.drop_succ_cons, List.drop_zero]
            repeat (go_big_quiet_step (fail))
            refine wpQuiet_nil ?_
            rintro _ ⟨dd, rfl⟩
            clear c1 c2 c3 c4 c5 c6 c7 c8
            go_wp2_with (first
              | (go_at_call 18; refine (HU.out dd).mono ?_; rintro e w5 ⟨a5, rfl, hc5, hf5⟩; have p5 := cell_fr hf5 (cell_fr dd.fr q5.out (fun h => h)) (fun h => by have := hst.out.h1; simp only at h; omega); obtain ⟨U5, K5, hc5', _⟩ := hc5.ex; have hlu := hc5'.lenU)
              | (go_at_call 13; refine (len13_any _ _ _ _ _ _ _ hc5').mono ?_; rintro e w6 ⟨rfl, rfl⟩))
            go_roundw
            case rel => exact ⟨k + 1, max la ount, by omega, by go_num, by go_num, hc5, below_step (below_step hbw.out dd.fr (fun _ h => h.elim)) hf5 (fun i h => by have := hst.out.h1; omega), (hbk.out.fr dd.fr (fun h => h)).fr hf5 (fun h => by omega)⟩
            case measure => simp [intOf]; omega
          · clear hc hu hx hA hn hO2
            obtain ⟨U5, K5, hc5', _⟩ := hst.out.ex
            have hlu := hc5'.lenU
            go_wp2_with (go_at_call 13; refine (len13_any _ _ _ _ _ _ _ hc5').mono ?_; rintro e w6 ⟨rfl, rfl⟩)
            go_roundw
            case rel => exact ⟨k + 1, la, by omega, by go_num, by go_num, hst.out, hbw.out, hbk.out⟩
            case measure => simp [intOf]; omega
        · obtain rfl : k = l.length := by omega
          obtain ⟨U, K, hc, ht⟩ := hst.out.ex
          have hlw := fun hok hla => HLA.out la U K ht hok hla h1
          have k18 := fun W hc hW => H18.out W (m + 2) m (m + 1) U K la hc hW
          have hh1 := hst.out.h1
          have hck := HCK.out
          have HC := Lib.hid (fun W (hf : Fr (fun _ => False) wr W) => hc.fr hf (fun h => h) (fun h => h) (fun h => h))
          have f0 := fun i => hbk.out.cell i
          clear HLA HCK hc
          cases ok
          · simp only [Bool.false_eq_true, ↓reduceIte] at hck
            subst hck
            have HK := Lib.hid k18
            clear k18 hlw
            go_wp2_with (first
              | (go_at_call 20; refine (H20.out _ hbw.out).mono ?_; rintro e w7 ⟨rfl, hb7⟩)
              | (go_at_call 9; refine (live_any _).mono ?_; rintro e w8 ⟨rfl, hb8⟩))
            go_ret
            exact ⟨rfl, below_step (below_step hbw.out (Fr.of_below (S := fun _ => False) hb7) (fun _ h => h.elim)) (Fr.of_below (S := fun _ => False) hb8) (fun _ h => h.elim)⟩
          · simp only [↓reduceIte] at hck
            subst hck
            by_cases hun : unt ≤ la
            · have HK := Lib.hid k18
              clear k18 hlw
              go_wp2_with (first
                | (go_at_call 20; refine (H20.out _ hbw.out).mono ?_; rintro e w7 ⟨rfl, hb7⟩; have B7 := hbk.out.fr (Fr.of_below (S := fun _ => False) hb7) (fun h => h); clear f0; have f7 := fun i => B7.cell i)
                | (go_at_call 9; refine (live_any _).mono ?_; rintro e w8 ⟨rfl, hb8⟩))
              go_ret
              exact ⟨rfl, below_step (below_step hbw.out (Fr.of_below (S := fun _ => False) hb7) (fun _ h => h.elim)) (Fr.of_below (S := fun _ => False) hb8) (fun _ h => h.elim)⟩
            · have h0 := hlw rfl (by omega)
              rw [h0] at k18
              simp only at k18
              have HK := Lib.hid k18
              clear k18 hlw h0
              go_wp2_with (first
                | (go_at_call 20; refine (H20.out _ hbw.out).mono ?_; rintro e w7 ⟨rfl, hb7⟩; have B7 := hbk.out.fr (Fr.of_below (S := fun _ => False) hb7) (fun h => h); clear f0; have f7 := fun i => B7.cell i)
                | (go_at_call 18; refine (HK.out _ (HC.out _ (Fr.of_below hb7)) (below_step hbw.out (Fr.of_below (S := fun _ => False) hb7) (fun _ h => h.elim))).mono ?_; rintro e w8 ⟨rfl, hc8, hf8⟩)
                | (go_at_call 13; refine (len13_any _ _ _ _ _ _ _ hc8).mono ?_; rintro e w9 ⟨rfl, rfl⟩)
                | (go_at_call 9; refine (live_any _).mono ?_; rintro e w10 ⟨rfl, hb10⟩))
              go_ret
              exact ⟨rfl, below_step (below_step (below_step hbw.out (Fr.of_below (S := fun _ => False) hb7) (fun _ h => h.elim)) hf8 (fun i h => by omega)) (Fr.of_below (S := fun _ => False) hb10) (fun _ h => h.elim)⟩
  · go_wp2_with (first
      | (go_at_call 8; refine (H8.out _ HL1.out).mono ?_; rintro e w1 ⟨rfl, rfl⟩)
      | (go_at_call 9; refine (live_any _).mono ?_; rintro e w2 ⟨rfl, hb2⟩))
    go_ret
    exact ⟨rfl, below_step HL1.out (Fr.of_below (S := fun _ => False) hb2) (fun _ h => h.elim)⟩

end Go.Proofs.Ytclokfjcjpigpaa
