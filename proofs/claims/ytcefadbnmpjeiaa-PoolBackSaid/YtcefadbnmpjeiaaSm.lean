/-
  The reference's Same: two slices of masks.
-/
import Derived.Test.YtcefadbnmpjeiaaMs
namespace Go.Proofs.Ytcefadbnmpjeiaa
open Go.RowKit Go.Maps Go.Shelf

theorem takeN_step {L L' : List Nat} {k : Nat} (h1 : k < L.length) (h2 : k < L'.length) (h : L.take k = L'.take k) (e : L[k] = L'[k]) : L.take (k + 1) = L'.take (k + 1) := by
  rw [List.take_succ_eq_append_getElem h1, List.take_succ_eq_append_getElem h2, h, e]

theorem MsV.at4 {w : World} {g off k : Nat} {M : Nat} (hc : ∀ i, i < 4 → w.cell? ⟨g, off + (k * 4 + i), none⟩ = some (.int .u64 (wordM M i : Nat))) :
    w.cell? ⟨g, off + k * 4, none⟩ = some (.int .u64 (wordM M 0 : Nat)) ∧ w.cell? ⟨g, off + k * 4 + 1, none⟩ = some (.int .u64 (wordM M 1 : Nat)) ∧ w.cell? ⟨g, off + k * 4 + 2, none⟩ = some (.int .u64 (wordM M 2 : Nat)) ∧ w.cell? ⟨g, off + k * 4 + 3, none⟩ = some (.int .u64 (wordM M 3 : Nat)) :=
  ⟨by simpa only [Nat.add_zero, Nat.add_assoc] using hc 0 (by omega), by simpa only [Nat.add_zero, Nat.add_assoc] using hc 1 (by omega), by simpa only [Nat.add_zero, Nat.add_assoc] using hc 2 (by omega), by simpa only [Nat.add_zero, Nat.add_assoc] using hc 3 (by omega)⟩

set_option maxRecDepth 20000 in
set_option maxHeartbeats 1000000 in
theorem same27_any (w : World) (v v' : Value) (L L' : List Nat) (h : MsV w v L) (h' : MsV w v' L') (hL : L.length ≤ 1000) (hL' : L'.length ≤ 1000) (hb : ∀ M ∈ L, M < 2 ^ 256) (hb' : ∀ M ∈ L', M < 2 ^ 256) (res : Bool) (hres : Hid (res = decide (L = L'))) :
    Calls Try.prog 27 #[v, v'] w fun e w' => e = .returned (.bool res) ∧ Fr (fun _ => False) w w' := by
  have HH := Lib.hid h
  have HH' := Lib.hid h'
  have HB := Lib.hid hb
  have HB' := Lib.hid hb'
  clear hb hb'
  obtain ⟨A, cap, rfl, _⟩ := h
  obtain ⟨A', cap', rfl, _⟩ := h'
  by_cases hne : L.length = L'.length
  · have b0 : (((L.length : Int) == (L'.length : Int))) = true := by simp; omega
    go_enter Try.func27, Try.ntmps27
    go_wp2
    go_loopw [5] (fun i wr => ∃ k : Nat, k ≤ L.length ∧ i = .int .i64 k ∧ Hid (L.take k = L'.take k) ∧ Fr (fun _ => False) w wr) (fun i _ => L.length - (intOf i).toNat)
    case atStart => exact ⟨0, Nat.zero_le _, rfl, rfl, Fr.refl _ _⟩
    case round =>
      obtain ⟨k, hk, rfl, hkp, hfr⟩ := hrel
      by_cases hlt : k < L.length
      · have hlt' : k < L'.length := by omega
        obtain ⟨B, cp, hv, hc⟩ := HH.out.fr0 hfr
        obtain ⟨B', cp', hv', hc'⟩ := HH'.out.fr0 hfr
        cases hv
        cases hv'
        obtain ⟨g, off, rfl, c1⟩ := hc k hlt
        obtain ⟨g', off', rfl, c2⟩ := hc' k hlt'
        have hm1 := HB.out _ (List.getElem_mem hlt)
        have hm2 := HB'.out _ (List.getElem_mem hlt')
        have HST := Lib.hid (takeN_step hlt hlt' hkp.out)
        have HN := Lib.hid (fun (hx : L[k] ≠ L'[k]) => (show L ≠ L' from fun e => hx (by subst e; rfl)))
        generalize L[k] = x at *
        generalize L'[k] = y at *
        have hq := fun W => eq_masks hm1 hm2 40 Try.underlying40 W
        simp only [valM, Ytcefadbnmpjeiaa.cellsM] at hq
        obtain ⟨a0, a1, a2, a3⟩ := MsV.at4 c1
        obtain ⟨a4, a5, a6, a7⟩ := MsV.at4 c2
        have l0 := Later.cell a0
        have l1 := Later.cell a1
        have l2 := Later.cell a2
        have l3 := Later.cell a3
        have l4 := Later.cell a4
        have l5 := Later.cell a5
        have l6 := Later.cell a6
        have l7 := Later.cell a7
        clear c1 c2 hc hc' a0 a1 a2 a3 a4 a5 a6 a7
        by_cases hxy : x = y
        · rw [decide_eq_true hxy] at hq
          have HXY := Lib.hid hxy
          clear hxy
          go_wp2_with fail
          refine wp_region_later wr (by kernel_rfl) (by kernel_rfl) (Fr.refl _ _) ?_
          repeat (go_big_quiet_step (fail))
          refine wpQuiet_nil ?_
          rintro _ ⟨d, rfl⟩
          go_wp2
          go_roundw
          case rel => exact ⟨k + 1, by omega, by go_num, HST.out HXY.out, hfr.then d.fr⟩
          case measure => simp [intOf]; omega
        · rw [decide_eq_false hxy] at hq
          have HXY := Lib.hid hxy
          clear hxy
          go_wp2_with fail
          refine wp_region_later wr (by kernel_rfl) (by kernel_rfl) (Fr.refl _ _) ?_
          repeat (go_big_quiet_step (fail))
          refine wpQuiet_nil ?_
          rintro _ ⟨d, rfl⟩
          go_wp2
          go_ret
          refine ⟨?_, hfr.then d.fr⟩
          rw [hres.out, decide_eq_false (HN.out HXY.out)]
          rfl
      · obtain rfl : k = L.length := by omega
        go_wp2
        go_ret
        refine ⟨?_, hfr⟩
        have e1 := hkp.out
        rw [List.take_length, hne, List.take_length] at e1
        rw [hres.out, decide_eq_true e1]
        rfl
  · have b0 : (((L.length : Int) == (L'.length : Int))) = false := by simp; omega
    go_enter Try.func27, Try.ntmps27
    go_wp2
    go_ret
    exact ⟨by rw [hres.out, decide_eq_false (fun e => hne (by rw [e]))]; rfl, Fr.refl _ _⟩

end Go.Proofs.Ytcefadbnmpjeiaa
