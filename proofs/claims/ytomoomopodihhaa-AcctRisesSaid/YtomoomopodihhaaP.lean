/-
  The rows' iterator, walked; All.
-/
import Derived.Test.YtomoomopodihhaaO
namespace Go.Proofs.Ytomoomopodihhaa
open Go.RowKit Go.Maps Go.Sort Go.Shelf
attribute [local go_sem] Oper.semAt_some

theorem Fr.grownNone {w w' : World} (h : Fr (fun _ => False) w w') : w.grownBy w' none := ⟨h.os, h.tape, h.output, h.size, fun k hk _ => h.block k hk (fun h => h)⟩

theorem rowsS_length (M : List (Int × Int)) : (rowsS M).length = M.length := by simp [rowsS, jobsS_length]
theorem rowsS_get (M : List (Int × Int)) (k : Nat) (h1 : k < (rowsS M).length) (h2 : k < (jobsS M).length) : (rowsS M)[k] = ((jobsS M)[k], (findK M (jobsS M)[k]).getD 0) := by simp [rowsS]

set_option maxHeartbeats 1000000 in
theorem rows61_in (n : Nat) (hn : 6 ≤ n) (l Bb b m A n0 : Nat) (M : List (Int × Int)) (J Jx : List (Int × Int) → World → Prop)
    (hY : ∀ pre x W, J pre W → pre.length < M.length → YieldAt Fence.wide (n - 1) Try.prog l (encR x) W fun e W' =>
      (e = .returned (.bool true) ∧ J (pre ++ [x]) W' ∧ KpA A n0 W W') ∨ (e = .returned (.bool false) ∧ Jx (pre ++ [x]) W'))
    (W : World) (hBb : Blk W Bb 34 #[.pointer (some ⟨b, 0, none⟩)]) (hB : BookAt W b m M) (hbA : b ≠ A) (hmA : m ≠ A) (hBA : Bb ≠ A) (hm0 : m < n0) (hAW : A < W.heap.size) (hJ : AbidesFrom W.heap.size J) (h0 : J [] W) :
    CallsIn Fence.wide n Try.prog 61 #[.func (.yield l) #[] #[], .pointer (some ⟨Bb, 0, none⟩)] W fun e W' => (∃ v, e = .returned v) ∧
      ((∃ ys, ys = rowsS M ∧ J ys W') ∨ (∃ pre, True ∧ Jx pre W')) := by
  have c0 := hBb.cell 0
  have h30 : CallsIn Fence.wide (n - 1) Try.prog 30 #[.pointer (some ⟨b, 0, none⟩)] W _ := callsIn_wide.2 (jobs30_s W b m M hB)
  have hf30 : Fence.wide.fn 30 := trivial
  have h1 : 1 ≤ n := by omega
  have hlen : (jobsS M).length ≤ 1000000 := by rw [jobsS_length]; exact hB.len
  have hwf := hB.wf
  refine callsIn_of_wp Try.func61 rfl trivial ?_ rfl
  simp only [Try.ntmps61, List.size_toArray, List.length_cons, List.length_nil, Nat.reduceAdd, Nat.reduceSub, Array.replicate_succ, Array.replicate_zero, List.push_toArray, List.append_toArray, List.nil_append, List.cons_append]
  gi_wp2_with (gi_at_call 30; refine h30.mono ?_; rintro e w1 ⟨v, rfl, hrow, hfr⟩; obtain ⟨vA, vcap, rfl⟩ := row_shape hrow)
  have hK0 : J [] w1 := hJ _ _ _ none h0 hfr.grownNone (fun r e => by cases e)
  have hB1 := hB.fr hfr (fun h => h) (fun h => h)
  have hb1 := hBb.fr hfr (fun h => h)
  gi_loopw [8] (fun i wr => ∃ k : Nat, k ≤ (jobsS M).length ∧ i = .int .i64 k ∧ J ((rowsS M).take k) wr ∧ KpA A n0 w1 wr)
    (fun i _ => (jobsS M).length - (intOf i).toNat)
  case atStart => exact ⟨0, Nat.zero_le _, rfl, by simpa using hK0, ⟨Nat.le_refl _, fun _ _ _ _ h => h⟩⟩
  case round =>
    obtain ⟨k, hk, rfl, hJs, hkp⟩ := hrel
    by_cases hlt : k < (jobsS M).length
    · have hlt2 : k < (rowsS M).length := by rw [rowsS_length, ← jobsS_length]; exact hlt
      obtain ⟨g, cap, hv, c1⟩ := row_elem1 encZ (hkp.row hAW hrow) hlt
      cases hv
      have hjw := wf_key hwf (List.getElem_mem hlt)
      have hBr := hkp.book hmA hm0 hbA hB1
      have c2 := (hkp.blk hBA hb1).cell 0
      have c3 := hBr.blk.cell 0
      have hl := lookM1 Try.underlying75 hBr.map hjw
      have hfw := findK_wf hwf (jobsS M)[k]
      have hst : (rowsS M).take (k + 1) = (rowsS M).take k ++ [((jobsS M)[k], (findK M (jobsS M)[k]).getD 0)] := by
        rw [List.take_succ_eq_append_getElem hlt2, rowsS_get M k hlt2 hlt]
      obtain ⟨fn, tmps, assign, body, hy, hR⟩ := hY _ ((jobsS M)[k], (findK M (jobsS M)[k]).getD 0) wr hJs (by rw [List.length_take, rowsS_length, ← jobsS_length]; omega)
      simp only [encR, cl_id hjw, cl_id hfw] at hy
      rw [← hst] at hR
      generalize (findK M (jobsS M)[k]).getD 0 = f at *
      simp only [encZ] at c1
      generalize (jobsS M)[k] = j at *
      gi_wp2
      refine hR.mono ?_
      rintro e W3 (⟨rfl, hJ3, hk3⟩ | ⟨rfl, hJx3⟩)
      · gi_wp2
        go_roundw
        case rel => exact ⟨k + 1, by omega, by go_num, hJ3, kpA_t hkp hk3⟩
        case measure => simp [intOf]; omega
      · gi_wp2
        refine bodyPost_ret (results_none rfl _ _ _) rfl ?_
        exact ⟨⟨_, rfl⟩, .inr ⟨_, trivial, hJx3⟩⟩
    · obtain rfl : k = (jobsS M).length := by omega
      gi_wp2
      go_end0
      refine ⟨⟨_, rfl⟩, .inl ⟨_, rfl, ?_⟩⟩
      rw [jobsS_length, ← rowsS_length, List.take_length] at hJs
      exact hJs

end Go.Proofs.Ytomoomopodihhaa
