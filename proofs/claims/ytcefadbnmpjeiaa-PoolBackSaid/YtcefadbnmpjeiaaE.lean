/-
  The orders' iterators.
-/
import Derived.Test.YtcefadbnmpjeiaaD
import Derived.Test.YtcefadbnmpjeiaaKp
namespace Go.Proofs.Ytcefadbnmpjeiaa
open Go.RowKit Go.Maps Go.Shelf
attribute [local go_sem] Oper.semAt_some

abbrev encX (x : Int) : Array Value := #[.int .i64 x]

set_option maxHeartbeats 1000000 in
theorem block77_any (l : LayD) (w : World) : Calls Try.prog 77 #[l.val] w fun e w' => e = .returned (.func (.func 88) #[] #[.pointer (some ⟨w.heap.size, 0, none⟩)]) ∧ w' = w.alloc (.cells #[.int .i64 l.s, .int .i64 l.p] 28) := by
  obtain ⟨s, p⟩ := l
  simp only [LayD.val]
  go_enter Try.func77, Try.ntmps77
  go_wp2
  go_ret
  exact ⟨rfl, rfl⟩

set_option maxHeartbeats 1000000 in
theorem cyclic78_any (l : LayD) (w : World) : Calls Try.prog 78 #[l.val] w fun e w' => e = .returned (.func (.func 89) #[] #[.pointer (some ⟨w.heap.size, 0, none⟩)]) ∧ w' = w.alloc (.cells #[.int .i64 l.s, .int .i64 l.p] 28) := by
  obtain ⟨s, p⟩ := l
  simp only [LayD.val]
  go_enter Try.func78, Try.ntmps78
  go_wp2
  go_ret
  exact ⟨rfl, rfl⟩

theorem upTo_prefix {k n : Nat} (h : k ≤ n) : upTo k <+: upTo n := by
  induction n with
  | zero => rw [show k = 0 by omega]; exact List.prefix_rfl
  | succ n ih =>
    by_cases hk : k = n + 1
    · rw [hk]; exact List.prefix_rfl
    · rw [upTo_succ]; exact (ih (by omega)).trans (List.prefix_append _ _)

set_option maxHeartbeats 1000000 in
theorem block88_in (n : Nat) (hn : 4 ≤ n) (lp Bb : Nat) (S : Nat → Prop) (n0 : Nat) (l : LayD) (J Jx : List Int → World → Prop) (c : Nat) (hc : l.count = (c : Int))
    (hY : ∀ pre x W, J pre W → pre.length < c → YieldAt Fence.wide (n - 1) Try.prog lp (encX x) W fun e W' =>
      (e = .returned (.bool true) ∧ J (pre ++ [x]) W' ∧ KpS S n0 W W') ∨ (e = .returned (.bool false) ∧ Jx (pre ++ [x]) W'))
    (W : World) (hBb : Blk W Bb 28 #[.int .i64 l.s, .int .i64 l.p]) (hJ : AbidesFrom W.heap.size J) (h0 : J [] W) :
    CallsIn Fence.wide n Try.prog 88 #[.func (.yield lp) #[] #[], .pointer (some ⟨Bb, 0, none⟩)] W fun e W' => (∃ v, e = .returned v) ∧
      ((∃ ys, ys = upTo c ∧ J ys W') ∨ (∃ pre, pre <+: upTo c ∧ Jx pre W')) := by
  have c0 := fun i => hBb.cell i
  have h53 := (callsIn_wide (n := n - 1)).2 (count53_any l W)
  have hf53 : Fence.wide.fn 53 := trivial
  have h1 : 1 ≤ n := by omega
  have hb := l.count_bound
  rw [hc] at h53 hb
  obtain ⟨s, p⟩ := l
  simp only [LayD.val] at h53 c0
  refine callsIn_of_wp Try.func88 rfl trivial ?_ rfl
  simp only [Try.ntmps88, List.size_toArray, List.length_cons, List.length_nil, Nat.reduceAdd, Nat.reduceSub, Array.replicate_succ, Array.replicate_zero, List.push_toArray, List.append_toArray, List.nil_append, List.cons_append]
  gi_wp2_with (gi_at_call 53; refine h53.mono ?_; rintro e w1 ⟨rfl, hfr⟩)
  have hK0 : J [] w1 := hJ _ _ _ none h0 hfr.grownNone (fun r e => by cases e)
  gi_loopw [6] (fun i wr => ∃ k : Nat, k ≤ c ∧ i = .int .i64 k ∧ J (upTo k) wr)
    (fun i _ => c - (intOf i).toNat)
  case atStart => exact ⟨0, Nat.zero_le _, rfl, hK0⟩
  case round =>
    obtain ⟨k, hk, rfl, hJs⟩ := hrel
    by_cases hlt : k < c
    · obtain ⟨fn, tmps, assign, body, hy, hR⟩ := hY _ (k : Int) wr hJs (by rw [upTo_len]; exact hlt)
      rw [← upTo_succ] at hR
      gi_wp2
      refine hR.mono ?_
      rintro e W3 (⟨rfl, hJ3, hk3⟩ | ⟨rfl, hJx3⟩)
      · gi_wp2
        go_roundw
        case rel => exact ⟨k + 1, by omega, by go_num, hJ3⟩
        case measure => simp [intOf]; omega
      · gi_wp2
        refine bodyPost_ret (results_none rfl _ _ _) rfl ?_
        exact ⟨⟨_, rfl⟩, .inr ⟨_, upTo_prefix (by omega), hJx3⟩⟩
    · obtain rfl : k = c := by omega
      gi_wp2
      go_end0
      exact ⟨⟨_, rfl⟩, .inl ⟨_, rfl, hJs⟩⟩

/-- The cores of a place, socket by socket. -/
def rowC (p place k : Nat) : List Int := (List.range k).map fun s : Nat => ((s * p + place : Nat) : Int)
def cyc (s p k : Nat) : List Int := (List.range k).flatMap fun place => rowC p place s
theorem rowC_succ (p place k : Nat) : rowC p place (k + 1) = rowC p place k ++ [((k * p + place : Nat) : Int)] := by simp [rowC, List.range_succ]
theorem cyc_succ (s p k : Nat) : cyc s p (k + 1) = cyc s p k ++ rowC p k s := by simp [cyc, List.range_succ]
theorem rowC_len (p place k : Nat) : (rowC p place k).length = k := by simp [rowC]
theorem cyc_len (s p k : Nat) : (cyc s p k).length = k * s := by
  induction k with
  | zero => simp [cyc]
  | succ k ih => rw [cyc_succ, List.length_append, ih, rowC_len, Nat.add_mul]; omega
theorem rowC_prefix (p place : Nat) {k n : Nat} (h : k ≤ n) : rowC p place k <+: rowC p place n := by
  induction n with
  | zero => rw [show k = 0 by omega]; exact List.prefix_rfl
  | succ n ih =>
    by_cases hk : k = n + 1
    · rw [hk]; exact List.prefix_rfl
    · rw [rowC_succ]; exact (ih (by omega)).trans (List.prefix_append _ _)
theorem cyc_prefix (s p : Nat) {k n : Nat} (h : k ≤ n) : cyc s p k <+: cyc s p n := by
  induction n with
  | zero => rw [show k = 0 by omega]; exact List.prefix_rfl
  | succ n ih =>
    by_cases hk : k = n + 1
    · rw [hk]; exact List.prefix_rfl
    · rw [cyc_succ]; exact (ih (by omega)).trans (List.prefix_append _ _)

set_option maxHeartbeats 2000000 in
theorem cyclic89_in (n : Nat) (hn : 4 ≤ n) (lp Bb : Nat) (S : Nat → Prop) (n0 : Nat) (s p : Nat) (hsb : 1 ≤ s ∧ s ≤ 8) (hpb : 1 ≤ p ∧ p ≤ 64) (J Jx : List Int → World → Prop)
    (hY : ∀ pre x W, J pre W → pre.length < p * s → YieldAt Fence.wide (n - 1) Try.prog lp (encX x) W fun e W' =>
      (e = .returned (.bool true) ∧ J (pre ++ [x]) W' ∧ KpS S n0 W W') ∨ (e = .returned (.bool false) ∧ Jx (pre ++ [x]) W'))
    (W : World) (hBb : Blk W Bb 28 #[.int .i64 s, .int .i64 p]) (hS : ¬ S Bb) (hn0 : Bb < n0) (h0 : J [] W) :
    CallsIn Fence.wide n Try.prog 89 #[.func (.yield lp) #[] #[], .pointer (some ⟨Bb, 0, none⟩)] W fun e W' => (∃ v, e = .returned v) ∧
      ((∃ ys, ys = cyc s p p ∧ J ys W') ∨ (∃ pre, pre <+: cyc s p p ∧ Jx pre W')) := by
  have c0 := fun i => hBb.cell i
  have h1 : 1 ≤ n := by omega
  refine callsIn_of_wp Try.func89 rfl trivial ?_ rfl
  simp only [Try.ntmps89, List.size_toArray, List.length_cons, List.length_nil, Nat.reduceAdd, Nat.reduceSub, Array.replicate_succ, Array.replicate_zero, List.push_toArray, List.append_toArray, List.nil_append, List.cons_append]
  gi_wp2
  gi_loopw [7] (fun i wr => ∃ k : Nat, k ≤ p ∧ i = .int .i64 k ∧ J (cyc s p k) wr ∧ KpS S n0 W wr)
    (fun i _ => p - (intOf i).toNat)
  case atStart => exact ⟨0, Nat.zero_le _, rfl, h0, KpS.refl⟩
  case round =>
    obtain ⟨k, hk, rfl, hJs, hkp⟩ := hrel
    by_cases hlt : k < p
    · have b1 : decide ((k : Int) < (p : Int)) = true := decide_eq_true (by omega)
      have c1 := fun i => (hkp.blk hS hn0 hBb).cell i
      gi_wp2
      gi_loopw [12] (fun i wq => ∃ j : Nat, j ≤ s ∧ i = .int .i64 j ∧ J (cyc s p k ++ rowC p k j) wq ∧ KpS S n0 W wq)
        (fun i _ => s - (intOf i).toNat)
      case atStart => exact ⟨0, Nat.zero_le _, rfl, by simpa [rowC] using hJs, hkp⟩
      case round =>
        obtain ⟨j, hj, rfl, hJs2, hkp2⟩ := hrel
        by_cases hlt2 : j < s
        · have b2 : decide ((j : Int) < (s : Int)) = true := decide_eq_true (by omega)
          have c2 := fun i => (hkp2.blk hS hn0 hBb).cell i
          have hl1 : (cyc s p k ++ rowC p k j).length < p * s := by
            rw [List.length_append, cyc_len, rowC_len]
            have : (k + 1) * s ≤ p * s := Nat.mul_le_mul_right _ (by omega)
            rw [Nat.add_mul] at this
            omega
          obtain ⟨fn, tmps, assign, body, hy, hR⟩ := hY _ ((j * p + k : Nat) : Int) _ hJs2 hl1
          rw [List.append_assoc, ← rowC_succ] at hR
          have hm0 : 0 ≤ (j : Int) * (p : Int) ∧ (j : Int) * (p : Int) ≤ 512 := by
            have : j * p ≤ 8 * 64 := Nat.mul_le_mul (by omega) (by omega)
            constructor
            · exact Int.mul_nonneg (by omega) (by omega)
            · have h2 : ((j * p : Nat) : Int) = (j : Int) * (p : Int) := by simp
              omega
          have hcast : ((j * p + k : Nat) : Int) = (j : Int) * (p : Int) + (k : Int) := by simp
          simp only [encX, hcast] at hy
          clear c1
          gi_wp2
          refine hR.mono ?_
          rintro e W3 (⟨rfl, hJ3, hk3⟩ | ⟨rfl, hJx3⟩)
          · gi_wp2
            go_roundw
            case rel => exact ⟨j + 1, by omega, by go_num, hJ3, kpS_t hkp2 hk3⟩
            case measure => simp [intOf]; omega
          · gi_wp2
            refine bodyPost_ret (results_none rfl _ _ _) rfl ?_
            refine ⟨⟨_, rfl⟩, .inr ⟨_, ?_, hJx3⟩⟩
            have hpre : cyc s p k ++ rowC p k (j + 1) <+: cyc s p (k + 1) := by
              rw [cyc_succ]
              exact (List.prefix_append_right_inj _).2 (rowC_prefix p k (by omega))
            exact hpre.trans (cyc_prefix s p (by omega))
        · obtain rfl : j = s := by omega
          rw [← cyc_succ] at hJs2
          gi_wp2
          go_roundw
          case rel => exact ⟨k + 1, by omega, by go_num, hJs2, hkp2⟩
          case measure => simp [intOf]; omega
    · obtain rfl : k = p := by omega
      gi_wp2
      go_end0
      exact ⟨⟨_, rfl⟩, .inl ⟨_, rfl, hJs⟩⟩

/-- The cores in order. -/
def LayD.order (l : LayD) (dist : Int) : List Int := if l.may ∧ (dist = 0 ∨ dist = 1) then (if dist = 0 then upTo l.count.toNat else cyc l.s.toNat l.p.toNat l.p.toNat) else []

end Go.Proofs.Ytcefadbnmpjeiaa
