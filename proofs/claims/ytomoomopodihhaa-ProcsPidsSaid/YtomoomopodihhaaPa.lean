/-
  The reference's Of, and May: that they end.
-/
import Derived.Test.YtomoomopodihhaaRef3M
namespace Go.Proofs.Ytomoomopodihhaa
open Go.RowKit Go.Maps

/-- The slice's capacity. -/
def capV : Value → Nat
  | .slice _ _ c => c
  | _ => 0

theorem IntsV.take {W : World} {A : Option Addr} {cap : Nat} {L : List Int} (h : IntsV W (.slice A L.length cap) L) {k : Nat} (hk : k ≤ L.length) : IntsV W (.slice A k cap) (L.take k) := by
  obtain ⟨A', c', e, hc⟩ := h
  cases e
  have hl : (L.take k).length = k := by rw [List.length_take]; omega
  refine ⟨A, cap, by rw [hl], fun j hj => ?_⟩
  obtain ⟨b, off, e1, h2⟩ := hc j (by omega)
  refine ⟨b, off, e1, ?_⟩
  rw [List.getElem_take]
  exact h2
theorem IntsV.el {W : World} {A : Option Addr} {cap : Nat} {ns : List Int} (h : IntsV W (.slice A ns.length cap) ns) {k : Nat} (hk : k < ns.length) :
    ∃ b off, A = some ⟨b, off, none⟩ ∧ W.cell? ⟨b, off + k, none⟩ = some (.int .i64 (ns[k]'hk)) := by
  obtain ⟨A', cap', e, hc⟩ := h
  cases e
  exact hc k hk
theorem IntsV.sh {W : World} {v : Value} {ns : List Int} (h : IntsV W v ns) : ∃ A cap, v = .slice A ns.length cap := let ⟨A, cap, e, _⟩ := h; ⟨A, cap, e⟩

def WeakOf (w : World) (e : Ending) (w' : World) : Prop := ∃ M n, e = .returned (.tuple #[valM M, .int .i64 n]) ∧ Fr (fun _ => False) w w'

theorem weak_of {w w' : World} {M : Nat} {n : Int} {e : Ending} (he : e = .returned (.tuple #[valM M, .int .i64 n])) (hf : Fr (fun _ => False) w w') : WeakOf w e w' := ⟨M, n, he, hf⟩

set_option maxHeartbeats 2000000 in
theorem rof74_any (w : World) (v : Value) (L : List Int) (h : IntsV w v L) (hl : L.length ≤ maxLen) (hcap : L.length ≤ capV v) :
    Calls Try.prog 74 #[v] w (WeakOf w) := by
  have HV := Lib.hid h
  have HMK := Lib.hid (fun W (hf : Fr (fun _ => False) w W) => make_any W v L (h.fr0 hf) hl)
  unfold maxLen at hl
  obtain ⟨A, cap, rfl, _⟩ := h
  simp only [capV] at hcap
  have HZ := Lib.hid (Blk.new w 110 (cellsM 0))
  have HF := Lib.hid ((Fr.refl (fun _ => False) w).alloc (.cells (cellsM 0) 110))
  rw [zero_cells] at HZ HF
  go_enter Try.func74, Try.ntmps74
  go_wp2
  go_loopw [4] (fun i wr => ∃ k : Nat, k ≤ L.length ∧ i = .int .i64 k ∧ Blk wr w.heap.size 110 #[.int .u64 0, .int .u64 0, .int .u64 0, .int .u64 0] ∧ Fr (fun _ => False) w wr) (fun i _ => L.length - (intOf i).toNat)
  case atStart => exact ⟨0, Nat.zero_le _, rfl, HZ.out, HF.out⟩
  case round =>
    obtain ⟨k, hk, rfl, hb, hfr⟩ := hrel
    by_cases hlt : k < L.length
    · obtain ⟨b, off, rfl, c0⟩ := (HV.out.fr0 hfr).el hlt
      have HIN := Lib.hid (fun (d : Later wr) => in_any d.val _ _ (((HV.out.fr0 hfr).take hk).fr0 d.fr) (by rw [List.length_take]; unfold maxLen; omega) (L[k]'hlt) _ (Lib.hid rfl))
      have HIN2 := Lib.hid (fun (d : Later wr) => (HIN.out d).mono (R' := fun e w' => e = .returned (.bool ((L.take k).any fun y => y == (L[k]'hlt))) ∧ Fr (fun _ => False) d.val w') fun e w' h => ⟨h.1, h.2 ▸ Fr.refl _ _⟩)
      clear HIN
      generalize L[k] = c at *
      generalize (L.take k).any (fun y => y == c) = bb at *
      have l0 := Later.cell c0
      have HB := Lib.hid hb
      have HFR := Lib.hid hfr
      have hkc : k ≤ cap := by omega
      clear c0 hb hfr
      by_cases hc1 : c < 0
      · have hc3 : decide (c < 0) = true := decide_eq_true hc1
        go_wp2_with fail
        refine wp_region_later wr (by kernel_rfl) (by kernel_rfl) (Fr.refl _ _) ?_
        repeat (go_big_quiet_step (fail))
        refine wpQuiet_nil ?_
        rintro _ ⟨d, rfl⟩
        have hb2 := HB.out.fr d.fr (fun h => h)
        obtain ⟨m0, m1, m2, m3⟩ := hb2.frozenM
        have z0 := fun i => hb2.cell i
        have HE := Lib.hid ((HFR.out.then d.fr).setM (g := w.heap.size) (Or.inr (Nat.le_refl _)) (.int .u64 0) (.int .u64 0) (.int .u64 0) (.int .u64 0))
        clear hb2
        go_wp2
        (try simp only [Exit.inBlock, Exit.then])
        refine bodyPost_ret (v := .tuple #[valM 0, .int .i64 1]) ?_ rfl (weak_of rfl HE.out)
        rw [results_cell_tmp rfl]
        simp only [valM, zero_cells]
        go_simp
      · by_cases hc2 : c > 255
        · have hc3 : decide (c < 0) = false := decide_eq_false hc1
          have hc4 : decide (255 < c) = true := decide_eq_true hc2
          go_wp2_with fail
          refine wp_region_later wr (by kernel_rfl) (by kernel_rfl) (Fr.refl _ _) ?_
          repeat (go_big_quiet_step (fail))
          refine wpQuiet_nil ?_
          rintro _ ⟨d, rfl⟩
          have hb2 := HB.out.fr d.fr (fun h => h)
          obtain ⟨m0, m1, m2, m3⟩ := hb2.frozenM
          have z0 := fun i => hb2.cell i
          have HE := Lib.hid ((HFR.out.then d.fr).setM (g := w.heap.size) (Or.inr (Nat.le_refl _)) (.int .u64 0) (.int .u64 0) (.int .u64 0) (.int .u64 0))
          clear hb2
          go_wp2
          (try simp only [Exit.inBlock, Exit.then])
          refine bodyPost_ret (v := .tuple #[valM 0, .int .i64 1]) ?_ rfl (weak_of rfl HE.out)
          rw [results_cell_tmp rfl]
          simp only [valM, zero_cells]
          go_simp
        · have hc3 : decide (c < 0) = false := decide_eq_false hc1
          have hc4 : decide (255 < c) = false := decide_eq_false hc2
          cases bb with
          | true =>
            go_wp2_with fail
            refine wp_region_later wr (by kernel_rfl) (by kernel_rfl) (Fr.refl _ _) ?_
            repeat (go_big_quiet_step (first | (go_at_call 90; exact later_call (HIN2.out _))))
            refine wpQuiet_nil ?_
            rintro _ ⟨d, rfl⟩
            have hb2 := HB.out.fr d.fr (fun h => h)
            obtain ⟨m0, m1, m2, m3⟩ := hb2.frozenM
            have z0 := fun i => hb2.cell i
            have HE := Lib.hid ((HFR.out.then d.fr).setM (g := w.heap.size) (Or.inr (Nat.le_refl _)) (.int .u64 0) (.int .u64 0) (.int .u64 0) (.int .u64 0))
            clear hb2
            go_wp2
            (try simp only [Exit.inBlock, Exit.then])
            refine bodyPost_ret (v := .tuple #[valM 0, .int .i64 1]) ?_ rfl (weak_of rfl HE.out)
            rw [results_cell_tmp rfl]
            simp only [valM, zero_cells]
            go_simp
          | false =>
            go_wp2_with fail
            refine wp_region_later wr (by kernel_rfl) (by kernel_rfl) (Fr.refl _ _) ?_
            repeat (go_big_quiet_step (first | (go_at_call 90; exact later_call (HIN2.out _))))
            refine wpQuiet_nil ?_
            rintro _ ⟨d, rfl⟩
            go_wp2
            go_roundw
            case rel => exact ⟨k + 1, by omega, by go_num, HB.out.fr d.fr (fun h => h), HFR.out.then d.fr⟩
            case measure => simp [intOf]; omega
    · obtain rfl : k = L.length := by omega
      have HM2 := Lib.hid (HMK.out _ hfr)
      have HB := Lib.hid hb
      have HFR := Lib.hid hfr
      generalize makeM L = M at *
      simp only [valM, Ytomoomopodihhaa.cellsM] at HM2
      clear hb hfr
      go_wp2_with fail
      refine HM2.out.mono ?_
      rintro e w3 ⟨rfl, hf3⟩
      have hb2 := HB.out.fr hf3 (fun h => h)
      obtain ⟨m0, m1, m2, m3⟩ := hb2.frozenM
      have z0 := fun i => hb2.cell i
      have HE := Lib.hid ((HFR.out.then hf3).setM (g := w.heap.size) (Or.inr (Nat.le_refl _)) (.int .u64 (wordM M 0 : Nat)) (.int .u64 (wordM M 1 : Nat)) (.int .u64 (wordM M 2 : Nat)) (.int .u64 (wordM M 3 : Nat)))
      clear hb2 hf3
      go_wp2
      (try simp only [Exit.inBlock, Exit.then])
      refine bodyPost_ret (v := .tuple #[valM M, .int .i64 0]) ?_ rfl (weak_of rfl HE.out)
      rw [results_cell_tmp rfl]
      unfold valM cellsM
      go_simp

end Go.Proofs.Ytomoomopodihhaa
