/-
  The reference's Order.
-/
import Derived.Test.YtcefadbnmpjeiaaH
namespace Go.Proofs.Ytcefadbnmpjeiaa
open Go.RowKit Go.Maps

set_option maxHeartbeats 1000000 in
theorem order15_bad (l : LayD) (d : Int) (h : ¬ okO l d) (w : World) : Calls Try.prog 15 #[l.val, .int .i64 d] w fun e w' => e = .returned (.tuple #[.slice none 0 0, .int .i64 1]) ∧ Fr (fun _ => False) w w' := by
  have h19 := fun W => check19_any l W
  by_cases hm : l.may
  · have hd : ¬ (d = 0 ∨ d = 1) := fun hd => h ⟨hm, hd⟩
    rw [show l.check = 0 from if_pos hm] at h19
    obtain ⟨s, p⟩ := l
    simp only [LayD.val] at *
    have H19 := Lib.hid h19
    clear h19 h hm
    by_cases h0 : d < 0
    · clear hd
      go_enter Try.func15, Try.ntmps15
      go_wp2_with fail
      refine (H19.out _).mono ?_
      rintro e w1 ⟨rfl, hf1⟩
      go_wp2_with fail
      go_ret2
      exact ⟨rfl, ((Fr.refl _ w).alloc _).then hf1⟩
    · have h1 : 1 < d := by omega
      clear hd
      go_enter Try.func15, Try.ntmps15
      go_wp2_with fail
      refine (H19.out _).mono ?_
      rintro e w1 ⟨rfl, hf1⟩
      go_wp2_with fail
      go_ret2
      exact ⟨rfl, ((Fr.refl _ w).alloc _).then hf1⟩
  · rw [show l.check = 1 from if_neg hm] at h19
    obtain ⟨s, p⟩ := l
    simp only [LayD.val] at *
    have H19 := Lib.hid h19
    clear h19 h hm
    go_enter Try.func15, Try.ntmps15
    go_wp2_with fail
    refine (H19.out _).mono ?_
    rintro e w1 ⟨rfl, hf1⟩
    go_wp2_with fail
    go_ret2
    exact ⟨rfl, ((Fr.refl _ w).alloc _).then hf1⟩

set_option maxRecDepth 20000 in
set_option maxHeartbeats 2000000 in
theorem order15_block (s p : Nat) (hsb : 1 ≤ s ∧ s ≤ 8) (hpb : 1 ≤ p ∧ p ≤ 64) (hsp : s * p ≤ 256) (w : World) :
    Calls Try.prog 15 #[.agg #[.int .i64 s, .int .i64 p], .int .i64 0] w fun e w' => ∃ v, e = .returned (.tuple #[v, .int .i64 0]) ∧ w'.ownsRow w.heap.size 3 1 v (upTo (s * p)).length ((upTo (s * p)).map encI) ∧ Fr (fun _ => False) w w' := by
  obtain ⟨i0, hi, hz0, hz1, hz2⟩ := info_parts info3
  have h19 := fun W => check19_any ⟨s, p⟩ W
  rw [show (⟨(s : Int), (p : Int)⟩ : LayD).check = 0 from if_pos (nat_may hsb hpb hsp)] at h19
  have h51 := fun W => count51_any ⟨s, p⟩ W
  rw [nat_count hsb hpb hsp] at h51
  simp only [LayD.val] at h19 h51
  have HB := Lib.hid (Blk.new w 23 #[.int .i64 s, .int .i64 p])
  have H19 := Lib.hid h19
  have H51 := Lib.hid h51
  clear h19 h51
  generalize s * p = c at *
  go_enter Try.func15, Try.ntmps15
  go_wp2_with fail
  refine (H19.out _).mono ?_
  rintro e w1 ⟨rfl, hf1⟩
  have hF1 : Fr (fun _ => False) w w1 := ((Fr.refl _ w).alloc _).then hf1
  have hB1 := HB.out.fr hf1 (fun h => h)
  have hz1' := hF1.size
  go_wp2_with fail
  go_loopw [6, 7] (fun v i wr => ∃ k : Nat, k ≤ c ∧ i = .int .i64 k ∧ wr.ownsRow w1.heap.size 3 1 v k ((upTo k).map encI) ∧ Fr (fun _ => False) w1 wr) (fun _ i _ => c - (intOf i).toNat)
  case atStart => exact ⟨0, Nat.zero_le _, rfl, World.ownsRow_nil _ _ _ _, Fr.refl _ _⟩
  case round =>
    obtain ⟨k, hk, rfl, hrow, hfr⟩ := hrel
    have hBr := hB1.fr hfr (fun h => h)
    have e1 := fun i => hBr.cell i
    by_cases hlt : k < c
    · go_wp2_with fail
      refine (H51.out _).mono ?_
      rintro e w2 ⟨rfl, hf2⟩
      have hrow2 := ownsRow_fr hrow hf2 (fun _ _ h => h)
      have hfr2 := hfr.then hf2
      have hsz := hfr2.size
      have s1 : k + 1 ≤ maxLen := by unfold maxLen; omega
      have s2 : (k + 1) * 8 ≤ 140737488355328 := by omega
      have s3 : ∀ o, w1.heap.size ≤ (w2.alloc o).heap.size := fun o => by rw [World.size_alloc]; omega
      have hst : (upTo (k + 1)).map encI = (upTo k).map encI ++ [.int .i64 (k : Int)] := by rw [upTo_succ, List.map_append]; rfl
      have hkr := hrow2.lt
      have HST := Lib.hid hst
      clear hst e1
      go_wp2_with (at_builtin; refine wpList_append_own _ rfl _ _ 24 rfl w1.heap.size 3 i0 (.int .i64 0) 1 8 Try.underlying24 hi hz0 hz1 hz2 rfl (by decide) _ _ _ rfl (hrow2.alloc _) ⟨w2.heap.size, 0, none⟩ 1 1 [.int .i64 (k : Int)] rfl rfl (news_one w2 3 [.int .i64 (k : Int)]) (by simp [Value.oneCell']) s1 s2 (s3 _) ?_; intro v' w3 hown1 hgrow1 hne1)
      go_roundw
      case rel => exact ⟨k + 1, by omega, by go_num, by rw [HST.out]; exact hown1, (hfr2.alloc _).grown hgrow1 (fun q e => Or.inr (hkr q e).1)⟩
      case measure => simp [intOf]; omega
    · obtain rfl : k = c := by omega
      go_wp2_with fail
      refine (H51.out _).mono ?_
      rintro e w2 ⟨rfl, hf2⟩
      go_wp2_with fail
      go_ret2
      refine ⟨_, rfl, ?_, hF1.then (hfr.then hf2)⟩
      rw [upTo_len]
      exact ownsRow_base_a' (ownsRow_fr hrow hf2 (fun _ _ h => h)) (by omega)

set_option maxRecDepth 20000 in
set_option maxHeartbeats 2000000 in
theorem order15_cyclic (s p : Nat) (hsb : 1 ≤ s ∧ s ≤ 8) (hpb : 1 ≤ p ∧ p ≤ 64) (hsp : s * p ≤ 256) (w : World) :
    Calls Try.prog 15 #[.agg #[.int .i64 s, .int .i64 p], .int .i64 1] w fun e w' => ∃ v, e = .returned (.tuple #[v, .int .i64 0]) ∧ w'.ownsRow w.heap.size 3 1 v (cyc s p p).length ((cyc s p p).map encI) ∧ Fr (fun _ => False) w w' := by
  obtain ⟨i0, hi, hz0, hz1, hz2⟩ := info_parts info3
  have h19 := fun W => check19_any ⟨s, p⟩ W
  rw [show (⟨(s : Int), (p : Int)⟩ : LayD).check = 0 from if_pos (nat_may hsb hpb hsp)] at h19
  simp only [LayD.val] at h19
  have HB := Lib.hid (Blk.new w 23 #[.int .i64 s, .int .i64 p])
  have H19 := Lib.hid h19
  clear h19
  go_enter Try.func15, Try.ntmps15
  go_wp2_with fail
  refine (H19.out _).mono ?_
  rintro e w1 ⟨rfl, hf1⟩
  have hF1 : Fr (fun _ => False) w w1 := ((Fr.refl _ w).alloc _).then hf1
  have hB1 := HB.out.fr hf1 (fun h => h)
  have hz1' := hF1.size
  go_wp2_with fail
  go_loopw [6, 8] (fun v i wr => ∃ k : Nat, k ≤ p ∧ i = .int .i64 k ∧ wr.ownsRow w1.heap.size 3 1 v (cyc s p k).length ((cyc s p k).map encI) ∧ Fr (fun _ => False) w1 wr) (fun _ i _ => p - (intOf i).toNat)
  case atStart => exact ⟨0, Nat.zero_le _, rfl, World.ownsRow_nil _ _ _ _, Fr.refl _ _⟩
  case round =>
    obtain ⟨k, hk, rfl, hrow, hfr⟩ := hrel
    have hBr := hB1.fr hfr (fun h => h)
    have e1 := fun i => hBr.cell i
    by_cases hlt : k < p
    · have b1 : decide ((k : Int) < (p : Int)) = true := decide_eq_true (by omega)
      go_wp2_with fail
      clear e1
      go_loopw [6, 9] (fun v i wq => ∃ j : Nat, j ≤ s ∧ i = .int .i64 j ∧ wq.ownsRow w1.heap.size 3 1 v (cyc s p k ++ rowC p k j).length ((cyc s p k ++ rowC p k j).map encI) ∧ Fr (fun _ => False) w1 wq) (fun _ i _ => s - (intOf i).toNat)
      case atStart => exact ⟨0, Nat.zero_le _, rfl, by simpa [rowC] using hrow, hfr⟩
      case round =>
        obtain ⟨j, hj, rfl, hrow2, hfr2⟩ := hrel
        have hBr2 := hB1.fr hfr2 (fun h => h)
        have e2 := fun i => hBr2.cell i
        by_cases hlt2 : j < s
        · have hsz := hfr2.size
          have hl1 : (cyc s p k ++ rowC p k j).length < p * s := by
            rw [List.length_append, cyc_len, rowC_len]
            have : (k + 1) * s ≤ p * s := Nat.mul_le_mul_right _ (by omega)
            rw [Nat.add_mul] at this
            omega
          rw [Nat.mul_comm] at hl1
          have hm0 : 0 ≤ (j : Int) * (p : Int) ∧ (j : Int) * (p : Int) ≤ 512 := by
            have : j * p ≤ 8 * 64 := Nat.mul_le_mul (by omega) (by omega)
            constructor
            · exact Int.mul_nonneg (by omega) (by omega)
            · have h2 : ((j * p : Nat) : Int) = (j : Int) * (p : Int) := by simp
              omega
          have s1 : (cyc s p k ++ rowC p k j).length + 1 ≤ maxLen := by unfold maxLen; omega
          have s2 : ((cyc s p k ++ rowC p k j).length + 1) * 8 ≤ 140737488355328 := by omega
          have s3 : ∀ o, w1.heap.size ≤ (wr.alloc o).heap.size := fun o => by rw [World.size_alloc]; omega
          have hst : (cyc s p k ++ rowC p k (j + 1)).map encI = (cyc s p k ++ rowC p k j).map encI ++ [.int .i64 ((j : Int) * (p : Int) + (k : Int))] := by
            rw [rowC_succ, ← List.append_assoc, List.map_append (l₂ := [_])]
            congr 1
          have hsl : (cyc s p k ++ rowC p k (j + 1)).length = (cyc s p k ++ rowC p k j).length + 1 := by rw [rowC_succ, ← List.append_assoc, List.length_append (bs := [_])]; rfl
          have hkr := hrow2.lt
          have HST := Lib.hid hst
          have HSL := Lib.hid hsl
          clear hst hsl
          generalize cyc s p k ++ rowC p k j = L at *
          generalize hmm : (j : Int) * (p : Int) = jp at *
          go_wp2_with (at_builtin; refine wpList_append_own _ rfl _ _ 24 rfl w1.heap.size 3 i0 (.int .i64 0) 1 8 Try.underlying24 hi hz0 hz1 hz2 rfl (by decide) _ _ _ rfl (hrow2.alloc _) ⟨wr.heap.size, 0, none⟩ 1 1 [.int .i64 (jp + (k : Int))] rfl rfl (news_one wr 3 [.int .i64 (jp + (k : Int))]) (by simp [Value.oneCell']) s1 s2 (s3 _) ?_; intro v' w3 hown1 hgrow1 hne1)
          go_roundw
          case rel => exact ⟨j + 1, by omega, by go_num, by rw [HST.out, HSL.out]; exact hown1, (hfr2.alloc _).grown hgrow1 (fun q e => Or.inr (hkr q e).1)⟩
          case measure => simp [intOf]; omega
        · obtain rfl : j = s := by omega
          rw [← cyc_succ] at hrow2
          go_wp2
          go_roundw
          case rel => exact ⟨k + 1, by omega, by go_num, hrow2, hfr2⟩
          case measure => simp [intOf]; omega
    · obtain rfl : k = p := by omega
      go_wp2
      go_ret2
      exact ⟨_, rfl, ownsRow_base_a' hrow (by omega), hF1.then hfr⟩

theorem order15_any (l : LayD) (d : Int) (w : World) : Calls Try.prog 15 #[l.val, .int .i64 d] w fun e w' => ∃ v, e = .returned (.tuple #[v, .int .i64 (orderE l d)]) ∧ w'.ownsRow w.heap.size 3 1 v (l.order d).length ((l.order d).map encI) ∧ Fr (fun _ => False) w w' := by
  by_cases h : okO l d
  · have he : orderE l d = 0 := if_pos h
    rw [he]
    obtain ⟨hm, hd⟩ := h
    obtain ⟨s, p, rfl, h1, h2, h3⟩ := nats_of hm
    rcases hd with rfl | rfl
    · rw [order_block h1 h2 h3]
      exact order15_block s p h1 h2 h3 w
    · rw [order_cyclic h1 h2 h3]
      exact order15_cyclic s p h1 h2 h3 w
  · have he : orderE l d = 1 := if_neg h
    rw [he, order_not h]
    refine (order15_bad l d h w).mono ?_
    rintro e w' ⟨rfl, hf⟩
    exact ⟨_, rfl, World.ownsRow_nil _ _ _ _, hf⟩

end Go.Proofs.Ytcefadbnmpjeiaa
