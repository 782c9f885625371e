/-
  The reference's Assign.
-/
import Derived.Test.YtcefadbnmpjeiaaMs
import Derived.Test.YtcefadbnmpjeiaaI
import Derived.Test.YtcefadbnmpjeiaaRef3M
namespace Go.Proofs.Ytcefadbnmpjeiaa
open Go.RowKit Go.Maps Go.Shelf

/-- The i-th rank's cores. -/
def part4 (fr : List Int) (P i : Nat) : List Int := (fr.drop (i * P)).take P
/-- The reference's answer, where all is in order. -/
def refA (F R P : Nat) (L : List Int) : List Nat × Int :=
  if (L.filter (hasM F)).length < R * P then ([], 12) else ((List.range R).map fun i => makeM (part4 (L.filter (hasM F)) P i), 0)

theorem IntsV.part {w : World} {base : Nat} {t : TypeId} {g cap : Nat} {fr : List Int} (h : w.ownsRow base t 1 (.slice (some ⟨g, 0, none⟩) fr.length cap) fr.length (fr.map encI)) {P i c2 : Nat} (hi : (i + 1) * P ≤ fr.length) :
    IntsV w (.slice (some ⟨g, i * P, none⟩) P c2) (part4 fr P i) := by
  have hi' : i * P + P ≤ fr.length := by rw [Nat.add_mul] at hi; omega
  have hl : (part4 fr P i).length = P := by unfold part4; rw [List.length_take, List.length_drop]; omega
  refine ⟨some ⟨g, i * P, none⟩, c2, by rw [hl], fun k hk => ⟨g, i * P, rfl, ?_⟩⟩
  rw [hl] at hk
  have hk' : i * P + k < fr.length := by omega
  obtain ⟨g', cap', hv, hc⟩ := row_elem1 encI h hk'
  cases hv
  rw [hc]
  congr 1
  show encI _ = encI _
  congr 1
  simp [part4, List.getElem_take, List.getElem_drop]

theorem filter_take {p : Int → Bool} {L : List Int} {k : Nat} (hk : k < L.length) : (L.take (k + 1)).filter p = if p L[k] then (L.take k).filter p ++ [L[k]] else (L.take k).filter p := by
  rw [List.take_succ_eq_append_getElem hk, List.filter_append]
  by_cases h : p L[k] = true
  · rw [if_pos h]; simp [h]
  · rw [if_neg h]; simp [h]

set_option maxRecDepth 20000 in
set_option maxHeartbeats 2000000 in
theorem assign26_good (s p : Int) (F R P : Nat) (hR : 1 ≤ R ∧ R ≤ 32) (hP : 1 ≤ P ∧ P ≤ 256) (d : Int) (L : List Int) (hL : L.length ≤ 256)
    (H15 : Hid (∀ W, Calls Try.prog 15 #[.agg #[.int .i64 s, .int .i64 p], .int .i64 d] W fun e w' => ∃ v, e = .returned (.tuple #[v, .int .i64 0]) ∧ w'.ownsRow W.heap.size 3 1 v L.length (L.map encI) ∧ Fr (fun _ => False) W w')) (w : World) (res : List Nat × Int) (hres : Hid (res = refA F R P L)) :
    Calls Try.prog 26 #[.agg #[.int .i64 s, .int .i64 p], .agg #[.int .u64 (wordM F 0 : Nat), .int .u64 (wordM F 1 : Nat), .int .u64 (wordM F 2 : Nat), .int .u64 (wordM F 3 : Nat), .int .i64 R, .int .i64 P, .int .i64 d]] w fun e w' => ∃ v, e = .returned (.tuple #[v, .int .i64 res.2]) ∧ w'.ownsRow w.heap.size 40 4 v res.1.length (flatM res.1) ∧ Fr (fun _ => False) w w' := by
  obtain ⟨i0, hi, hz0, hz1, hz2⟩ := info_parts info3
  obtain ⟨j0, hj, hy0, hy1, hy2⟩ := info_parts info40
  have b1 : decide ((R : Int) < 1) = false := decide_eq_false (by omega)
  have b2 : decide ((32 : Int) < (R : Int)) = false := decide_eq_false (by omega)
  have b3 : decide ((P : Int) < 1) = false := decide_eq_false (by omega)
  have b4 : decide ((256 : Int) < (P : Int)) = false := decide_eq_false (by omega)
  have HB := Lib.hid (Blk.new w 23 #[.int .i64 s, .int .i64 p])
  have hW := Blk.new (w.alloc (.cells #[.int .i64 s, .int .i64 p] 23)) 45 #[.int .u64 (wordM F 0 : Nat), .int .u64 (wordM F 1 : Nat), .int .u64 (wordM F 2 : Nat), .int .u64 (wordM F 3 : Nat), .int .i64 R, .int .i64 P, .int .i64 d]
  rw [World.size_alloc] at hW
  have HW := Lib.hid hW
  clear hW
  have HF := Lib.hid (((Fr.refl (fun _ => False) w).alloc (.cells #[.int .i64 s, .int .i64 p] 23)).alloc (.cells #[.int .u64 (wordM F 0 : Nat), .int .u64 (wordM F 1 : Nat), .int .u64 (wordM F 2 : Nat), .int .u64 (wordM F 3 : Nat), .int .i64 (R : Nat), .int .i64 (P : Nat), .int .i64 d] 45))
  go_enter Try.func26, Try.ntmps26
  go_wp2_with fail
  refine (H15.out _).mono ?_
  rintro e w1 ⟨v1, rfl, hr1, hf1⟩
  have hF1 := HF.out.then hf1
  have hW1 := HW.out.fr hf1 (fun h => h)
  have hi1 := IntsV.of_row hr1
  obtain ⟨A1, cap1, rfl⟩ := row_shape hr1
  have HF1 := Lib.hid hF1
  have HW1 := Lib.hid hW1
  have HI1 := Lib.hid hi1
  have hz1' := hF1.size
  clear hF1 hW1 hi1 hr1 hf1 HF HW HB
  have e1 := fun i => HW1.out.cell i
  go_wp2_with fail
  clear e1
  go_loopw [8, 9] (fun v i wr => ∃ k : Nat, k ≤ L.length ∧ i = .int .i64 k ∧ wr.ownsRow w1.heap.size 3 1 v ((L.take k).filter (hasM F)).length (((L.take k).filter (hasM F)).map encI) ∧ Fr (fun _ => False) w1 wr) (fun _ i _ => L.length - (intOf i).toNat)
  case atStart => exact ⟨0, Nat.zero_le _, rfl, World.ownsRow_nil _ _ _ _, Fr.refl _ _⟩
  case round =>
    obtain ⟨k, hk, rfl, hrow, hfr⟩ := hrel
    obtain ⟨wA, hwA⟩ : ∃ wA, wA = wr := ⟨_, rfl⟩
    by_cases hlt : k < L.length
    · obtain ⟨B, cp, hv, hc⟩ := HI1.out.fr0 hfr
      cases hv
      obtain ⟨g, off, rfl, c1⟩ := hc k hlt
      have hft := filter_take (p := hasM F) hlt
      have h57 := fun W => rhas_any F L[k] W
      have hWr := HW1.out.fr hfr (fun h => h)
      have hle : ((L.take k).filter (hasM F)).length ≤ k := Nat.le_trans (List.length_filter_le _ _) (by rw [List.length_take]; omega)
      generalize L[k] = x at *
      simp only [valM, Ytcefadbnmpjeiaa.cellsM] at h57
      have l0 := Later.cell (show wr.cell? ⟨w.heap.size + 1, 0, none⟩ = some (.int .u64 (wordM F 0 : Nat)) from hWr.cell 0)
      have l1 := Later.cell (show wr.cell? ⟨w.heap.size + 1, 1, none⟩ = some (.int .u64 (wordM F 1 : Nat)) from hWr.cell 1)
      have l2 := Later.cell (show wr.cell? ⟨w.heap.size + 1, 2, none⟩ = some (.int .u64 (wordM F 2 : Nat)) from hWr.cell 2)
      have l3 := Later.cell (show wr.cell? ⟨w.heap.size + 1, 3, none⟩ = some (.int .u64 (wordM F 3 : Nat)) from hWr.cell 3)
      have l4 := Later.cell c1
      have C1 := Lib.hid c1
      cases hb : hasM F x with
      | true =>
        rw [hb] at h57 hft
        have HFT := Lib.hid hft
        have H57 := Lib.hid h57
        have HROW := Lib.hid hrow
        clear hft h57 hc hWr c1 hrow
        go_wp2_with fail
        refine wp_region_later wr (by kernel_rfl) (by kernel_rfl) (Fr.refl _ _) ?_
        repeat (go_big_quiet_step (first | (go_at_call 57; exact later_call (H57.out _))))
        refine wpQuiet_nil ?_
        rintro _ ⟨dd, rfl⟩
        have k4 := l4 dd
        have hrow2 := ownsRow_fr HROW.out dd.fr (fun _ _ h => h)
        have hkr := hrow2.lt
        have hsz := hfr.size
        have hsz2 := dd.fr.size
        clear l0 l1 l2 l3 l4
        generalize (L.take k).filter (hasM F) = fk at *
        go_wp2_with (at_builtin; refine wpList_append_own _ rfl _ _ 24 rfl w1.heap.size 3 i0 (.int .i64 0) 1 8 Try.underlying24 hi hz0 hz1 hz2 rfl (by decide) _ _ _ rfl (hrow2.alloc _) ⟨dd.val.heap.size, 0, none⟩ 1 1 [.int .i64 x] rfl rfl (news_one dd.val 3 _) (by simp [Value.oneCell']) (by unfold maxLen; omega) (by omega) (by simp; omega) ?_; intro v' w3 hown1 hgrow1 hne1)
        go_roundw
        case rel =>
          refine ⟨k + 1, by omega, by go_num, ?_, ((hfr.then dd.fr).alloc _).grown hgrow1 (fun q e => Or.inr (hkr q e).1)⟩
          rw [HFT.out, if_pos (by simp), List.length_append, List.map_append]
          exact hown1
        case measure => simp [intOf]; omega
      | false =>
        rw [hb] at h57 hft
        have HFT := Lib.hid hft
        have H57 := Lib.hid h57
        have HROW := Lib.hid hrow
        clear hft h57 hc hWr c1 hrow
        go_wp2_with fail
        refine wp_region_later wr (by kernel_rfl) (by kernel_rfl) (Fr.refl _ _) ?_
        repeat (go_big_quiet_step (first | (go_at_call 57; exact later_call (H57.out _))))
        refine wpQuiet_nil ?_
        rintro _ ⟨dd, rfl⟩
        go_wp2
        go_roundw
        case rel =>
          refine ⟨k + 1, by omega, by go_num, ?_, hfr.then dd.fr⟩
          rw [HFT.out, if_neg (by simp)]
          exact ownsRow_fr HROW.out dd.fr (fun _ _ h => h)
        case measure => simp [intOf]; omega
    · obtain rfl : k = L.length := by omega
      subst hwA
      rw [List.take_length] at hrow
      have hRP : (R : Int) * (P : Int) = ((R * P : Nat) : Int) := by simp
      have hRPb : R * P ≤ 8192 := Nat.mul_le_mul (show R ≤ 32 by omega) (show P ≤ 256 by omega)
      have hRP1 : 1 ≤ R * P := Nat.mul_pos (by omega) (by omega)
      have hRP0 : 0 ≤ (R : Int) * (P : Int) ∧ (R : Int) * (P : Int) ≤ 8192 := by omega
      have hfl : (L.filter (hasM F)).length ≤ 256 := Nat.le_trans (List.length_filter_le _ _) hL
      have hWr := HW1.out.fr hfr (fun h => h)
      have e2 := fun i => hWr.cell i
      have hwrs := hfr.size
      have HRES := Lib.hid (show res = (if (L.filter (hasM F)).length < R * P then ([], 12) else ((List.range R).map fun i => makeM (part4 (L.filter (hasM F)) P i), 0)) from hres.out)
      generalize L.filter (hasM F) = fr at *
      obtain ⟨A3, cap3, rfl⟩ := row_shape hrow
      by_cases hc : fr.length < R * P
      · have b5 : decide ((fr.length : Int) < (R : Int) * (P : Int)) = true := decide_eq_true (by omega)
        rw [if_pos hc] at HRES
        have HROW := Lib.hid hrow
        clear hrow hWr hRP
        go_wp2_with fail
        go_ret2
        rw [HRES.out]
        exact ⟨_, rfl, World.ownsRow_nil _ _ _ _, HF1.out.then hfr⟩
      · have b5 : decide ((fr.length : Int) < (R : Int) * (P : Int)) = false := decide_eq_false (by omega)
        rw [if_neg hc] at HRES
        have HROW := Lib.hid hrow
        have HWR := Lib.hid hWr
        clear hrow hWr hRP
        go_wp2_with fail
        clear e2
        go_loopw [10, 11] (fun v i wq => ∃ k : Nat, k ≤ R ∧ i = .int .i64 k ∧ wq.ownsRow wA.heap.size 40 4 v k (flatM ((List.range k).map fun i => makeM (part4 fr P i))) ∧ Fr (fun _ => False) wA wq) (fun _ i _ => R - (intOf i).toNat)
        case atStart => exact ⟨0, Nat.zero_le _, rfl, World.ownsRow_nil _ _ _ _, Fr.refl _ _⟩
        case round =>
          obtain ⟨k, hk, rfl, hrow2, hfr2⟩ := hrel
          have hWq := HWR.out.fr hfr2 (fun h => h)
          by_cases hlt : k < R
          · have b6 : decide ((k : Int) < (R : Int)) = true := decide_eq_true (by omega)
            have hkP : (k + 1) * P ≤ R * P := Nat.mul_le_mul_right _ (by omega)
            have hkP2 : (k + 1) * P = k * P + P := by rw [Nat.add_mul]; omega
            have m1 : (k : Int) * (P : Int) = ((k * P : Nat) : Int) := by simp
            have m2 : ((k : Int) + 1) * (P : Int) = ((k * P + P : Nat) : Int) := by rw [Int.add_mul]; simp
            obtain ⟨g3, c3, hv3⟩ : ∃ g c, A3 = some ⟨g, 0, none⟩ ∧ cap3 = c := by
              obtain ⟨g', c', hv, _⟩ := row_elem1 encI HROW.out (k := 0) (by omega)
              cases hv
              exact ⟨g', _, rfl, rfl⟩
            obtain ⟨rfl, rfl⟩ := hv3
            have hcap : fr.length ≤ cap3 := by
              rcases HROW.out.2 with ⟨h1, _⟩ | ⟨g', c', cur, hv, _, _, h4, _⟩
              · cases h1
              · cases hv; exact h4
            have hne : ¬ cap3 = k * P := by omega
            have hro := ownsRow_fr HROW.out hfr2 (fun _ _ h => h)
            have hpt := IntsV.part (c2 := cap3 - k * P) (P := P) (i := k) hro (by omega)
            have hpl : (part4 fr P k).length ≤ maxLen := by unfold part4 maxLen; rw [List.length_take]; omega
            have h58 := make_any wr _ _ hpt hpl
            simp only [valM, Ytcefadbnmpjeiaa.cellsM] at h58
            have hlo : 0 ≤ (k : Int) * (P : Int) ∧ (k : Int) * (P : Int) ≤ 8192 := by omega
            have hhi : 0 ≤ ((k : Int) + 1) * (P : Int) ∧ ((k : Int) + 1) * (P : Int) ≤ 8192 := by omega
            have hlh : (k : Int) * (P : Int) ≤ ((k : Int) + 1) * (P : Int) := by omega
            have hhl : ((k : Int) + 1) * (P : Int) ≤ cap3 := by omega
            have HST := Lib.hid (show flatM ((List.range (k + 1)).map fun i => makeM (part4 fr P i)) = flatM ((List.range k).map fun i => makeM (part4 fr P i)) ++ [.int .u64 (wordM (makeM (part4 fr P k)) 0 : Nat), .int .u64 (wordM (makeM (part4 fr P k)) 1 : Nat), .int .u64 (wordM (makeM (part4 fr P k)) 2 : Nat), .int .u64 (wordM (makeM (part4 fr P k)) 3 : Nat)] by
              rw [List.range_succ, List.map_append, List.map_cons, List.map_nil, flatM_snoc])
            have H58 := Lib.hid h58
            have HR2 := Lib.hid hrow2
            have e3 := fun i => hWq.cell i
            clear m1 m2 hpt h58 hrow2 hro
            go_wp2_with fail
            refine H58.out.mono ?_
            rintro e w3 ⟨rfl, hf3⟩
            clear e3
            have hr3 := ownsRow_fr HR2.out hf3 (fun _ _ h => h)
            have hkr := hr3.lt
            have hsz := hfr2.size
            have hsz3 := hf3.size
            generalize makeM (part4 fr P k) = Mk at *
            go_wp2_with (at_builtin; refine wpList_append_own _ rfl _ _ 52 rfl wA.heap.size 40 j0 (.agg #[.int .u64 0, .int .u64 0, .int .u64 0, .int .u64 0]) 4 32 Try.underlying52 hj hy0 hy1 hy2 rfl (by decide) _ _ _ rfl (hr3.alloc _) ⟨w3.heap.size, 0, none⟩ 1 1 [.int .u64 (wordM Mk 0 : Nat), .int .u64 (wordM Mk 1 : Nat), .int .u64 (wordM Mk 2 : Nat), .int .u64 (wordM Mk 3 : Nat)] rfl rfl (news_one w3 40 _) (by simp [Value.oneCell']) (by unfold maxLen; omega) (by omega) (by simp; omega) ?_; intro v' w4 hown1 hgrow1 hne1)
            go_roundw
            case rel => exact ⟨k + 1, by omega, by go_num, by rw [HST.out]; exact hown1, ((hfr2.then hf3).alloc _).grown hgrow1 (fun q e => Or.inr (hkr q e).1)⟩
            case measure => simp [intOf]; omega
          · obtain rfl : k = R := by omega
            have b6 : decide ((k : Int) < (k : Int)) = false := decide_eq_false (by omega)
            have e3 := fun i => hWq.cell i
            go_wp2_with fail
            go_ret2
            rw [HRES.out]
            refine ⟨_, rfl, ?_, (HF1.out.then hfr).then hfr2⟩
            simp only [List.length_map, List.length_range]
            exact ownsRow_base_a' hrow2 (by omega)

end Go.Proofs.Ytcefadbnmpjeiaa
