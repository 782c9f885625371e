/-
  'ReplayScripts': walked.
-/
import Derived.Test.YtclokfjcjpigpaaY
namespace Go.Proofs.Ytclokfjcjpigpaa
open Go.RowKit Go.Maps

theorem Stt.new {w w1 w2 : World} {most : Int} (hc : CacheAt w1 (w.heap.size + 2) w.heap.size (w.heap.size + 1) most [] []) (hf1 : Fr (fun _ => False) w w1)
    (hr : RefAt w2 w.heap.size w1.heap.size most [] [] (.slice none 0 0) (.slice none 0 0)) (hf2 : Fr (fun _ => False) w1 w2) :
    Stt w2 w.heap.size (w.heap.size + 2) w.heap.size (w.heap.size + 1) w1.heap.size most :=
  ⟨⟨[], [], [], [], _, _, hc.fr hf2 (fun h => h) (fun h => h) (fun h => h), hr, Sim.nil⟩, Nat.le_refl _, by omega, Nat.le_trans hf1.size hf2.size⟩

theorem op_cells {w : World} {B : Nat} {A : Option Addr} {l : List OpD} (h : Ops w B A l) {k : Nat} (hk : k < l.length) :
    ∃ b off, A = some ⟨b, off, none⟩ ∧ b < B ∧ ∀ j u, (l[k]'hk).cells[j]? = some u → w.cell? ⟨b, off + k * 11 + j, none⟩ = some u := h.at_ k hk

theorem below_step {S : Nat → Prop} {B : Nat} {w wr w' : World} (h : Below B w wr) (hf : Fr S wr w') (hs : ∀ i, S i → B ≤ i) (hB : B ≤ w.heap.size := by exact Nat.le_refl _) : Below B w w' :=
  (Fr.trans (S := fun k => B ≤ k) ⟨h.os, h.tape, h.output, h.size, fun i _ hn => h.block i (by omega)⟩ hf (fun i _ h => hs i h)).below hB (fun _ h => h)

set_option maxHeartbeats 2000000 in
theorem scripts3_any (w : World) (most : Int) (A : Option Addr) (cap : Nat) (l : List OpD) (h : Ops w w.heap.size A l) (hl : l.length ≤ maxLen) :
    Calls Try.prog 3 #[.int .i64 most, .slice A l.length cap] w fun e w' => e = .returned (.bool true) ∧ Below w.heap.size w w' := by
  have H8 := Lib.hid (small8_any w w.heap.size A cap l h hl 150 _ rfl)
  have HO := Lib.hid h
  clear h
  unfold maxLen at hl
  cases hs : smallB l 150
  · rw [hs] at H8
    go_enter Try.func3, Try.ntmps3
    go_wp2_with (first
      | (go_at_call 8; refine H8.out.mono ?_; rintro e w1 ⟨rfl, rfl⟩)
      | (go_at_call 9; refine (live_any _).mono ?_; rintro e w2 ⟨rfl, hb2⟩))
    go_ret
    exact ⟨rfl, hb2⟩
  · rw [hs] at H8
    by_cases hm : most < 1 ∨ 64 < most
    · go_enter Try.func3, Try.ntmps3
      go_wp2_with (first
        | (go_at_call 8; refine H8.out.mono ?_; rintro e w1 ⟨rfl, rfl⟩)
        | (go_at_call 10; refine (new10_no most _ hm).mono ?_; rintro e w1 ⟨rfl, rfl⟩)
        | (go_at_call 11; refine (new11_no most _ hm).mono ?_; rintro e w1 ⟨rfl, rfl⟩)
        | (go_at_call 9; refine (live_any _).mono ?_; rintro e w2 ⟨rfl, hb2⟩))
      go_ret
      exact ⟨rfl, hb2⟩
    · have h1 : 1 ≤ most := by omega
      have h64 : most ≤ 64 := by omega
      clear hm
      go_enter Try.func3, Try.ntmps3
      go_wp2_with (first
        | (go_at_call 8; refine H8.out.mono ?_; rintro e w1 ⟨rfl, rfl⟩)
        | (go_at_call 10; refine (new10_yes most _ h1 h64).mono ?_; rintro e w1 ⟨rfl, hc1, hf1⟩)
        | (go_at_call 11; refine (new11_yes most _ w.heap.size hf1.size h1 h64).mono ?_; rintro e w2 ⟨rfl, hr2, hf2⟩; have HS := Lib.hid (Stt.new hc1 hf1 hr2 hf2); have HB := Lib.hid ((hf1.then hf2).below (Nat.le_refl _) (fun _ h => h.elim)); clear hc1 hf1 hr2 hf2))
      generalize w1.heap.size = r at *
      go_loopw [7] (fun i wr => ∃ k : Nat, k ≤ l.length ∧ i = .int .i64 k ∧ Hid (Stt wr w.heap.size (w.heap.size + 2) w.heap.size (w.heap.size + 1) r most) ∧ Below w.heap.size w wr) (fun i _ => l.length - (intOf i).toNat)
      case atStart => exact ⟨0, Nat.zero_le _, rfl, HS, HB.out⟩
      case round =>
        obtain ⟨k, hk, rfl, hst, hbw⟩ := hrel
        by_cases hlt : k < l.length
        · have hO2 := HO.out.below hbw
          obtain ⟨b, off, rfl, _, hc⟩ := hO2.at_ k hlt
          have hx := hO2.wf _ (List.getElem_mem hlt)
          have hA := hO2.nums _ (List.getElem_mem hlt)
          have hn := hO2.len _ (List.getElem_mem hlt)
          generalize l[k] = o at *
          have hd := fun W h hA => does12_any W w.heap.size (w.heap.size + 2) w.heap.size (w.heap.size + 1) r most h o hx hA hn
          obtain ⟨d, ⟨job, epoch, step, frm, unt, A, c, ns, cores⟩, now, j2, e2⟩ := o
          simp only [OpD.val, OpD.cells] at *
          have c0 := hc 0 _ rfl
          have c1 := hc 1 _ rfl
          have c2 := hc 2 _ rfl
          have c3 := hc 3 _ rfl
          have c4 := hc 4 _ rfl
          have c5 := hc 5 _ rfl
          have c6 := hc 6 _ rfl
          have c7 := hc 7 _ rfl
          have c8 := hc 8 _ rfl
          have c9 := hc 9 _ rfl
          have c10 := hc 10 _ rfl
          simp only [Nat.add_zero] at c0
          have HD := Lib.hid hd
          have HX := Lib.hid hx
          have HA := Lib.hid hA
          clear hc hd hx hA hn hO2
          have hz := hst.out.off
          have hsz := hst.out.size
          go_wp2_with fail
          have F1 := (Fr.refl (fun _ => False) wr).alloc (.cells #[.int .i64 d, .int .i64 job, .int .i64 epoch, .int .i64 step, .int .i64 frm, .int .i64 unt, .slice A ns.length c, .int .i64 cores, .int .i64 now, .int .i64 j2, .int .i64 e2] 33)
          have B1 := Blk.new wr 33 #[.int .i64 d, .int .i64 job, .int .i64 epoch, .int .i64 step, .int .i64 frm, .int .i64 unt, .slice A ns.length c, .int .i64 cores, .int .i64 now, .int .i64 j2, .int .i64 e2]
          have S1 := hst.out.fr F1
          have A1 := HA.out.below (F1.below hsz (fun _ h => h.elim))
          have W1 := F1.size
          generalize (wr.alloc (.cells #[.int .i64 d, .int .i64 job, .int .i64 epoch, .int .i64 step, .int .i64 frm, .int .i64 unt, .slice A ns.length c, .int .i64 cores, .int .i64 now, .int .i64 j2, .int .i64 e2] 33)) = wq at *
          have l0 := Later.cell (B1.cell 0)
          have l1 := Later.cell (B1.cell 1)
          have l2 := Later.cell (B1.cell 2)
          have l3 := Later.cell (B1.cell 3)
          have l4 := Later.cell (B1.cell 4)
          have l5 := Later.cell (B1.cell 5)
          have l6 := Later.cell (B1.cell 6)
          have l7 := Later.cell (B1.cell 7)
          have l8 := Later.cell (B1.cell 8)
          have l9 := Later.cell (B1.cell 9)
          have l10 := Later.cell (B1.cell 10)
          have BB := Lib.hid B1
          have SS := Lib.hid S1
          have AA := Lib.hid A1
          have FF := Lib.hid F1
          clear B1 S1 A1 F1 c0 c1 c2 c3 c4 c5 c6 c7 c8 c9 c10
          refine wp_region_mid wq 3 2 (by kernel_rfl) (by kernel_rfl) (Fr.refl _ _) ?_
          simp only [List.take_succ_cons, List.take_zero, List.drop_succ_cons, List.drop_zero, Nat.reduceAdd]
          repeat (go_big_quiet_step (fail))
          refine wpQuiet_nil ?_
          rintro _ ⟨dd, rfl⟩
          clear l0 l1 l2 l3 l4 l5 l6 l7 l8 l9 l10
          go_wp2_with (go_at_call 12; refine (HD.out _ (SS.out.fr dd.fr) (AA.out.below (dd.fr.below (Nat.le_trans hsz W1) (fun _ h => h.elim)))).mono ?_; rintro e w2 ⟨rfl, hs2, hf2⟩)
          have B2 := (BB.out.fr dd.fr (fun h => h)).fr hf2 (by
            rintro (h | h | h)
            · exact absurd hz.1 (h ▸ Nat.lt_irrefl _)
            · exact absurd hz.2.1 (h ▸ Nat.lt_irrefl _)
            · exact absurd hz.2.2 (h ▸ Nat.lt_irrefl _))
          obtain ⟨U, K, L, M, lv, bv, hc2, hr2, hsim⟩ := hs2.ex
          have hl1 : (U.length : Int) ≤ 64 := Int.le_trans hc2.lenU hc2.le64
          have hl2 := hsim.len
          have hl3 := hsim.lenK
          have hl4 := hc2.lenK
          have k13 := fun (d2 : Later w2) => len13_any d2.val _ _ _ _ _ _ (hc2.fr d2.fr (fun h => h) (fun h => h) (fun h => h))
          have k14 := fun (d2 : Later w2) => used14_any d2.val _ _ _ _ _ _ (hc2.fr d2.fr (fun h => h) (fun h => h) (fun h => h)) _ HX.out now
          have k15 := fun (d2 : Later w2) => used15_any d2.val _ _ _ _ _ _ _ (hr2.fr d2.fr (fun _ h => h.elim)) (by omega) ⟨job, epoch, step, frm, unt, A, c, ns, cores⟩ now
          have k16 := fun (d2 : Later w2) => revoked16_any d2.val _ _ _ _ _ _ (hc2.fr d2.fr (fun h => h) (fun h => h) (fun h => h)) _ HX.out
          have k17 := fun (d2 : Later w2) => revoked17_any d2.val _ _ _ _ _ _ _ (hr2.fr d2.fr (fun _ h => h.elim)) (by omega) ⟨job, epoch, step, frm, unt, A, c, ns, cores⟩ _ rfl
          rw [← hsim.used] at k15
          rw [← hsim.revoked] at k17
          obtain ⟨lA, lcap, rfl⟩ := hr2.shape
          have m1 := Later.cell (hr2.blk.cell 1)
          rw [← hl2] at m1
          have l1 := Later.cell (B2.cell 1)
          have l2 := Later.cell (B2.cell 2)
          have l3 := Later.cell (B2.cell 3)
          have l4 := Later.cell (B2.cell 4)
          have l5 := Later.cell (B2.cell 5)
          have l6 := Later.cell (B2.cell 6)
          have l7 := Later.cell (B2.cell 7)
          have l8 := Later.cell (B2.cell 8)
          simp only [CredD.val, CredD.key] at k14 k15 k16 k17
          generalize usedP U (job, epoch, step) now = ub at *
          generalize revokedP K ⟨job, epoch, step, frm, unt, A, c, ns, cores⟩ = rb at *
          generalize U.length = n at *
          have H13 := Lib.hid k13
          have H14 := Lib.hid k14
          have H15 := Lib.hid k15
          have H16 := Lib.hid k16
          have H17 := Lib.hid k17
          have hrr := hr2.hr
          clear k13 k14 k15 k16 k17 hc2 hr2 hsim hl1 hl2 hl3 hl4
          have FT := Lib.hid (((FF.out.then dd.fr).mono (S' := Mine (w.heap.size) (w.heap.size + 1) r) (fun _ _ h => h.elim)).then hf2)
          have HRR := Lib.hid hrr
          cases ub <;> cases rb <;> (
            simp only [Mid]
            repeat (go_big_quiet_step (first
              | (go_at_call 13; exact later_call ((H13.out _).mono fun _ _ ⟨he, hw⟩ => ⟨he, hw ▸ Fr.refl _ _⟩))
              | (go_at_call 14; exact later_call (H14.out _))
              | (go_at_call 15; exact later_call (H15.out _))
              | (go_at_call 16; exact later_call (H16.out _))
              | (go_at_call 17; exact later_call (H17.out _))))
            refine wpQuiet_nil ?_
            rintro _ ⟨d3, rfl⟩
            go_wp2
            go_roundw
            case rel => exact ⟨k + 1, by omega, by go_num, hs2.fr d3.fr, below_step hbw (FT.out.trans d3.fr (fun _ _ h => h.elim)) (by
              rintro i (h | h | h) <;> subst h <;> first | exact Nat.le_refl _ | exact Nat.le_succ _ | exact HRR.out)⟩
            case measure => simp [intOf]; omega)
        · obtain rfl : k = l.length := by omega
          go_wp2_with (first
            | (go_at_call 9; refine (live_any _).mono ?_; rintro e w2 ⟨rfl, hb2⟩))
          go_ret
          exact ⟨rfl, (Fr.below_then (S := fun k => w.heap.size ≤ k) ⟨hbw.os, hbw.tape, hbw.output, hbw.size, fun i hi _ => hbw.block i hi⟩ hb2).below (Nat.le_refl _) (fun _ h => h)⟩

end Go.Proofs.Ytclokfjcjpigpaa
