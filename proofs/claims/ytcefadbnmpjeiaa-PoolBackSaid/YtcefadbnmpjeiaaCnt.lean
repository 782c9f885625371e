/-
  A mask's cores, yielded in turn; Count.
-/
import Derived.Test.YtcefadbnmpjeiaaJ
namespace Go.Proofs.Ytcefadbnmpjeiaa
open Go.RowKit Go.Maps Go.Shelf
attribute [local go_sem] Oper.semAt_some

/-- The cores of a mask, rising. -/
def coresL (M : Nat) (k : Nat) : List Int := (upTo k).filter (hasM M)
def countM (M : Nat) : Nat := (coresL M 256).length

theorem coresL_succ (M k : Nat) : coresL M (k + 1) = if hasM M (k : Int) then coresL M k ++ [(k : Int)] else coresL M k := by
  unfold coresL
  rw [upTo_succ, List.filter_append]
  by_cases h : hasM M (k : Int) = true
  · rw [if_pos h]; simp [h]
  · rw [if_neg h]; simp [h]
theorem coresL_prefix (M : Nat) {k n : Nat} (h : k ≤ n) : coresL M k <+: coresL M n := by
  induction n with
  | zero => rw [show k = 0 by omega]; exact List.prefix_rfl
  | succ n ih =>
    by_cases hk : k = n + 1
    · rw [hk]; exact List.prefix_rfl
    · rw [coresL_succ]
      split
      · exact (ih (by omega)).trans (List.prefix_append _ _)
      · exact ih (by omega)
theorem coresL_len (M k : Nat) : (coresL M k).length ≤ k := by
  unfold coresL
  exact Nat.le_trans (List.length_filter_le _ _) (by rw [upTo_len]; exact Nat.le_refl _)

set_option maxHeartbeats 1000000 in
theorem cores63_any (M : Nat) (w : World) : Calls Try.prog 63 #[valM M] w fun e w' => e = .returned (.func (.func 80) #[] #[.pointer (some ⟨w.heap.size, 0, none⟩)]) ∧ w' = w.alloc (.cells (cellsM M) 33) := by
  simp only [valM, Ytcefadbnmpjeiaa.cellsM]
  go_enter Try.func63, Try.ntmps63
  go_wp2
  go_ret
  exact ⟨rfl, rfl⟩

set_option maxRecDepth 20000 in
set_option maxHeartbeats 2000000 in
theorem cores80_in (n : Nat) (hn : 4 ≤ n) (lp Bb : Nat) (S : Nat → Prop) (n0 : Nat) (M : Nat) (J Jx : List Int → World → Prop)
    (hY : ∀ pre x W, J pre W → pre.length < 256 → YieldAt Fence.wide (n - 1) Try.prog lp (encX x) W fun e W' =>
      (e = .returned (.bool true) ∧ J (pre ++ [x]) W' ∧ KpS S n0 W W') ∨ (e = .returned (.bool false) ∧ Jx (pre ++ [x]) W'))
    (W : World) (hBb : Blk W Bb 33 (cellsM M)) (hS : ¬ S Bb) (hn0 : Bb < n0) (hJ : AbidesFrom W.heap.size J) (h0 : J [] W) :
    CallsIn Fence.wide n Try.prog 80 #[.func (.yield lp) #[] #[], .pointer (some ⟨Bb, 0, none⟩)] W fun e W' => (∃ v, e = .returned v) ∧
      ((∃ ys, ys = coresL M 256 ∧ J ys W') ∨ (∃ pre, pre <+: coresL M 256 ∧ Jx pre W')) := by
  have hf56 : Fence.wide.fn 56 := trivial
  have h1 : 1 ≤ n := by omega
  refine callsIn_of_wp Try.func80 rfl trivial ?_ rfl
  simp only [Try.ntmps80, List.size_toArray, List.length_cons, List.length_nil, Nat.reduceAdd, Nat.reduceSub, Array.replicate_succ, Array.replicate_zero, List.push_toArray, List.append_toArray, List.nil_append, List.cons_append]
  gi_wp2
  gi_loopw [4] (fun i wr => ∃ k : Nat, k ≤ 256 ∧ i = .int .i64 k ∧ J (coresL M k) wr ∧ Blk wr Bb 33 (cellsM M))
    (fun i _ => 256 - (intOf i).toNat)
  case atStart => exact ⟨0, Nat.zero_le _, rfl, h0, hBb⟩
  case round =>
    obtain ⟨k, hk, rfl, hJs, hb⟩ := hrel
    by_cases hlt : k < 256
    · have b1 : decide ((k : Int) < 256) = true := decide_eq_true (by omega)
      have h56 := (callsIn_wide (n := n - 1)).2 (has_any M k wr)
      have hs := coresL_succ M k
      have hlen := coresL_len M k
      simp only [valM, Ytcefadbnmpjeiaa.cellsM] at h56
      obtain ⟨c0, c1, c2, c3⟩ := hb.cellsM
      have HB := Lib.hid hb
      clear hb
      cases hx : hasM M (k : Int) with
      | true =>
        rw [hx] at h56 hs
        rw [if_pos (by rfl)] at hs
        have H56 := Lib.hid h56
        clear h56 hx
        gi_wp2_with (gi_at_call 56; refine H56.out.mono ?_; rintro e w1 ⟨rfl, hf1⟩; clear c0 c1 c2 c3; have hJ1 : J (coresL M k) w1 := hJ _ _ _ none hJs hf1.grownNone (fun r e => by cases e); obtain ⟨fn, tmps, assign, body, hy, hR⟩ := hY _ (k : Int) w1 hJ1 (by omega); rw [← hs] at hR)
        refine hR.mono ?_
        rintro e W3 (⟨rfl, hJ3, hk3⟩ | ⟨rfl, hJx3⟩)
        · gi_wp2
          go_roundw
          case rel => exact ⟨k + 1, by omega, by go_num, hJ3, hk3.blk hS hn0 (HB.out.fr hf1 (fun h => h))⟩
          case measure => simp [intOf]; omega
        · gi_wp2
          refine bodyPost_ret (results_none rfl _ _ _) rfl ?_
          exact ⟨⟨_, rfl⟩, .inr ⟨_, coresL_prefix M (by omega), hJx3⟩⟩
      | false =>
        rw [hx] at h56 hs
        rw [if_neg (by simp)] at hs
        have H56 := Lib.hid h56
        clear h56 hx
        gi_wp2_with (gi_at_call 56; refine H56.out.mono ?_; rintro e w1 ⟨rfl, hf1⟩)
        have hJ1 : J (coresL M k) w1 := hJ _ _ _ none hJs hf1.grownNone (fun r e => by cases e)
        refine ⟨fun f h => (by cases h), ?_⟩
        gi_wp2
        go_roundw
        case rel => exact ⟨k + 1, by omega, by go_num, by rw [hs]; exact hJ1, HB.out.fr hf1 (fun h => h)⟩
        case measure => simp [intOf]; omega
    · obtain rfl : k = 256 := by omega
      gi_wp2
      go_end0
      exact ⟨⟨_, rfl⟩, .inl ⟨_, rfl, hJs⟩⟩

theorem cores_stops (n : Nat) (hn : 4 ≤ n) (Bb : Nat) (S : Nat → Prop) (M : Nat) (hS : ¬ S Bb) (w : World) (hBb : Blk w Bb 33 (cellsM M)) :
    SeqStopsK Fence.wide n Try.prog 80 #[.pointer (some ⟨Bb, 0, none⟩)] encX (KpS S w.heap.size) (fun ys => ys = coresL M 256) (fun pre => pre <+: coresL M 256) 256 w := fun lp J Jx W hW hJ _ hY h0 => by
  have hf : Fr (fun _ => False) w W := Fr.of_below hW
  exact cores80_in n hn lp Bb S w.heap.size M J Jx hY W (hBb.fr hf (fun h => h)) hS hBb.lt hJ h0

end Go.Proofs.Ytcefadbnmpjeiaa
