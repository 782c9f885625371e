/-
  The program's Order, walked (made by gen_order.py).
-/
import Derived.Test.YtcefadbnmpjeiaaF
namespace Go.Proofs.Ytcefadbnmpjeiaa
open Go.RowKit Go.Maps Go.Shelf
attribute [local go_sem] Oper.semAt_some


set_option maxRecDepth 20000 in
set_option maxHeartbeats 2000000 in
theorem order13_block (s p : Nat) (hsb : 1 ≤ s ∧ s ≤ 8) (hpb : 1 ≤ p ∧ p ≤ 64) (hsp : s * p ≤ 256) (w : World) :
    Calls Try.prog 13 #[.agg #[.int .i64 s, .int .i64 p], .int .i64 0] w fun e w' => ∃ v, e = .returned (.tuple #[v, .int .i64 0]) ∧ w'.ownsRow w.heap.size 3 1 v (upTo (s * p)).length ((upTo (s * p)).map encI) ∧ Fr (fun _ => False) w w' := by
  obtain ⟨i0, hi, hz0, hz1, hz2⟩ := info_parts info3
  have hmay := nat_may hsb hpb hsp
  have h49 := fun W => (callsIn_wide (n := 9)).2 (of49_any 0 W)
  rw [show ofV 0 = (.func (.func 77) #[] #[], true) from rfl] at h49
  have h50 := fun W => (callsIn_wide (n := 9)).2 (may50_any ⟨s, p⟩ W)
  rw [decide_eq_true hmay] at h50
  have hmk := fun W => (callsIn_wide (n := 9)).2 (block77_any ⟨s, p⟩ W)
  simp only [LayD.val] at h50 hmk
  have HB := Lib.hid (Blk.new w 28 #[.int .i64 s, .int .i64 p])
  have H49 := Lib.hid h49
  have H50 := Lib.hid h50
  have HMK := Lib.hid hmk
  have HMAY := Lib.hid hmay
  clear h49 h50 hmk hmay
  have hf49 : Fence.wide.fn 49 := trivial
  have hf50 : Fence.wide.fn 50 := trivial
  have hfmk : Fence.wide.fn 77 := trivial
  refine (callsIn_wide (n := 10)).1 ?_
  refine callsIn_of_wp_marks Try.func13 rfl trivial ?_ rfl
  simp only [Try.ntmps13, List.size_toArray, List.length_cons, List.length_nil, Nat.reduceAdd, Nat.reduceSub, Array.replicate_succ, Array.replicate_zero, List.push_toArray, List.append_toArray, List.nil_append, List.cons_append]
  gi_wp2_with (gi_at_call 49; refine (H49.out _).mono ?_; rintro e w1 ⟨rfl, hf1⟩; have hB1 := HB.out.fr hf1 (fun h => h); have hz1' := hB1.lt; have e1 := fun i => (hB1.alloc (.cells #[.func (.func 77) #[] #[]] 87)).cell i)
  gi_wp2_with (gi_at_call 50; refine (H50.out _).mono ?_; rintro e w2 ⟨rfl, hf2⟩; clear e1; have hD2 := (Blk.new w1 87 #[.func (.func 77) #[] #[]]).fr hf2 (fun h => h); have hB2 := (hB1.alloc (.cells #[.func (.func 77) #[] #[]] 87)).fr hf2 (fun h => h); have hz2' := hD2.lt; have d2 := fun i => (hD2.alloc (.cells #[.slice none 0 0] 24)).cell i; have e2 := fun i => (hB2.alloc (.cells #[.slice none 0 0] 24)).cell i)
  gi_wp2_with (gi_at_call 77; refine (HMK.out _).mono ?_; rintro e w3 ⟨rfl, rfl⟩)
  have hF2 : Fr (fun _ => False) w w2 := (((Fr.refl _ w).alloc _).then hf1).alloc _ |>.then hf2
  clear d2 e2
  have bO := (Boxed.new w2 24 (.slice none 0 0)).alloc (.cells #[.int .i64 s, .int .i64 p] 28)
  have bN := Blk.new (w2.alloc (.cells #[.slice none 0 0] 24)) 28 #[.int .i64 s, .int .i64 p]
  rw [World.size_alloc] at bN
  have hB0 : Below w.heap.size w ((w2.alloc (.cells #[.slice none 0 0] 24)).alloc (.cells #[.int .i64 s, .int .i64 p] 28)) := ((hF2.alloc _).alloc _).below (Nat.le_refl _) (fun _ h => h.elim)
  have hsz2 := hF2.size
  have hWs : ((w2.alloc (.cells #[.slice none 0 0] 24)).alloc (.cells #[.int .i64 s, .int .i64 p] 28)).heap.size = w2.heap.size + 2 := by simp
  generalize hA : w2.heap.size = A at *
  have hcnt := nat_count hsb hpb hsp
  have hstp := block_stops 9 (by omega) (A + 1) (fun i => i = A) ⟨s, p⟩ (s * p) hcnt _ bN
  generalize hW3 : (w2.alloc (.cells #[.slice none 0 0] 24)).alloc (.cells #[.int .i64 s, .int .i64 p] 28) = W3 at *
  have hxs : (upTo (s * p)).length ≤ 256 := by rw [upTo_len]; exact hsp
  refine wpIn_rangeFunc_ownG rfl (by omega) (gf := 88) (lb := #[.pointer (some ⟨A + 1, 0, none⟩)]) rfl trivial (enters_of Try.func88 (by kernel_rfl) rfl)
    hstp kpS_t (kpS_b (Nat.le_refl _)) (Below.refl _ _) (fun _ => rfl)
    (fun (pre : List Int) W => (∃ v, Boxed W A 24 v ∧ W.ownsRow W3.heap.size 3 1 v pre.length (pre.map encI) ∧ True) ∧ Below w.heap.size w W ∧ W3.heap.size ≤ W.heap.size)
    (fun _ _ _ => False)
    (OwnFrom.and (Own.from (holdsRow_own W3.heap.size A 24 3 1 (fun pre : List Int => pre.length) (fun pre : List Int => pre.map encI) (fun _ _ => True)) _) (OwnFrom.and (ownFrom_below (Nat.le_refl _) (by omega)) (fun _ _ _ _ hs hg _ => Nat.le_trans hs hg.size)))
    (fun _ _ _ _ _ hs _ _ => hs)
    ⟨⟨_, bO, World.ownsRow_nil _ _ _ _, trivial⟩, hB0, Nat.le_refl _⟩
    ?a1 ?assign ?body ?done ?stop
  case assign =>
    intro l x W K hK
    gi_wp2
    exact hK
  case body =>
    rintro l pre x W ⟨⟨v, hv, hrow, _⟩, hB, hle⟩ hlt
    have hc := hv.cell
    have hlt' : pre.length < 256 := by omega
    gi_wp2_with (gi_at_builtin; refine wpListIn_append_own _ rfl _ _ 24 rfl W3.heap.size 3 i0 (.int .i64 0) 1 8 Try.underlying24 hi hz0 hz1 hz2 rfl (by decide) _ _ _ rfl (hrow.alloc _) ⟨W.heap.size, 0, none⟩ 1 1 [.int .i64 x] rfl rfl (cell_one_new _ _ _) (by simp [Value.oneCell']) (by unfold maxLen; omega) (by omega) (by simp; omega) ?_; intro v' w1' hown' hgrow _; obtain ⟨g', cap', rfl⟩ := ownsRow_succ hown'; obtain ⟨hv1, hv2, hr2, hk2, hb2, hkp2⟩ := boxed_appendedK (n1 := w.heap.size) hv (by decide) hrow (by omega) hle (by omega) hown' hgrow; have hc1 := hv1.cell; have hf1' := hv1.frozen)
    exact ⟨hk2.from _, hkp2, ⟨_, hv2, by simpa [encI] using hr2, trivial⟩, hB.trans hb2, Nat.le_trans hle hk2.size⟩
  case done =>
    rintro D ys W hD rfl ⟨⟨v, hv, hrow, _⟩, hB, hle⟩ hK
    have hc := hv.cell
    gi_wp2
    refine ⟨by simp, .inl ⟨_, _, rfl, run_takeDeferred hK, ?_⟩⟩
    refine ⟨_, results_tmp2 rfl _ _ _, v, rfl, ownsRow_base_a' (ownsRow_putObj hrow _ hK rfl) (by omega), Fr.of_below (hB.trans (belowK_b (w := w) (Nat.le_refl _) W D _ _ (by omega) hK rfl rfl))⟩
  case stop =>
    rintro D c pre W _ _ h _
    exact h.elim


set_option maxRecDepth 20000 in
set_option maxHeartbeats 2000000 in
theorem order13_cyclic (s p : Nat) (hsb : 1 ≤ s ∧ s ≤ 8) (hpb : 1 ≤ p ∧ p ≤ 64) (hsp : s * p ≤ 256) (w : World) :
    Calls Try.prog 13 #[.agg #[.int .i64 s, .int .i64 p], .int .i64 1] w fun e w' => ∃ v, e = .returned (.tuple #[v, .int .i64 0]) ∧ w'.ownsRow w.heap.size 3 1 v (cyc s p p).length ((cyc s p p).map encI) ∧ Fr (fun _ => False) w w' := by
  obtain ⟨i0, hi, hz0, hz1, hz2⟩ := info_parts info3
  have hmay := nat_may hsb hpb hsp
  have h49 := fun W => (callsIn_wide (n := 9)).2 (of49_any 1 W)
  rw [show ofV 1 = (.func (.func 78) #[] #[], true) from rfl] at h49
  have h50 := fun W => (callsIn_wide (n := 9)).2 (may50_any ⟨s, p⟩ W)
  rw [decide_eq_true hmay] at h50
  have hmk := fun W => (callsIn_wide (n := 9)).2 (cyclic78_any ⟨s, p⟩ W)
  simp only [LayD.val] at h50 hmk
  have HB := Lib.hid (Blk.new w 28 #[.int .i64 s, .int .i64 p])
  have H49 := Lib.hid h49
  have H50 := Lib.hid h50
  have HMK := Lib.hid hmk
  have HMAY := Lib.hid hmay
  clear h49 h50 hmk hmay
  have hf49 : Fence.wide.fn 49 := trivial
  have hf50 : Fence.wide.fn 50 := trivial
  have hfmk : Fence.wide.fn 78 := trivial
  refine (callsIn_wide (n := 10)).1 ?_
  refine callsIn_of_wp_marks Try.func13 rfl trivial ?_ rfl
  simp only [Try.ntmps13, List.size_toArray, List.length_cons, List.length_nil, Nat.reduceAdd, Nat.reduceSub, Array.replicate_succ, Array.replicate_zero, List.push_toArray, List.append_toArray, List.nil_append, List.cons_append]
  gi_wp2_with (gi_at_call 49; refine (H49.out _).mono ?_; rintro e w1 ⟨rfl, hf1⟩; have hB1 := HB.out.fr hf1 (fun h => h); have hz1' := hB1.lt; have e1 := fun i => (hB1.alloc (.cells #[.func (.func 78) #[] #[]] 87)).cell i)
  gi_wp2_with (gi_at_call 50; refine (H50.out _).mono ?_; rintro e w2 ⟨rfl, hf2⟩; clear e1; have hD2 := (Blk.new w1 87 #[.func (.func 78) #[] #[]]).fr hf2 (fun h => h); have hB2 := (hB1.alloc (.cells #[.func (.func 78) #[] #[]] 87)).fr hf2 (fun h => h); have hz2' := hD2.lt; have d2 := fun i => (hD2.alloc (.cells #[.slice none 0 0] 24)).cell i; have e2 := fun i => (hB2.alloc (.cells #[.slice none 0 0] 24)).cell i)
  gi_wp2_with (gi_at_call 78; refine (HMK.out _).mono ?_; rintro e w3 ⟨rfl, rfl⟩)
  have hF2 : Fr (fun _ => False) w w2 := (((Fr.refl _ w).alloc _).then hf1).alloc _ |>.then hf2
  clear d2 e2
  have bO := (Boxed.new w2 24 (.slice none 0 0)).alloc (.cells #[.int .i64 s, .int .i64 p] 28)
  have bN := Blk.new (w2.alloc (.cells #[.slice none 0 0] 24)) 28 #[.int .i64 s, .int .i64 p]
  rw [World.size_alloc] at bN
  have hB0 : Below w.heap.size w ((w2.alloc (.cells #[.slice none 0 0] 24)).alloc (.cells #[.int .i64 s, .int .i64 p] 28)) := ((hF2.alloc _).alloc _).below (Nat.le_refl _) (fun _ h => h.elim)
  have hsz2 := hF2.size
  have hWs : ((w2.alloc (.cells #[.slice none 0 0] 24)).alloc (.cells #[.int .i64 s, .int .i64 p] 28)).heap.size = w2.heap.size + 2 := by simp
  generalize hA : w2.heap.size = A at *
  have hstp := cyclic_stops 9 (by omega) (A + 1) (fun i => i = A) s p hsb hpb (by omega) _ bN
  have hps : p * s ≤ 256 := by rw [Nat.mul_comm]; exact hsp
  generalize hW3 : (w2.alloc (.cells #[.slice none 0 0] 24)).alloc (.cells #[.int .i64 s, .int .i64 p] 28) = W3 at *
  have hxs : (cyc s p p).length ≤ 256 := by rw [cyc_len, Nat.mul_comm]; exact hsp
  refine wpIn_rangeFunc_ownG rfl (by omega) (gf := 89) (lb := #[.pointer (some ⟨A + 1, 0, none⟩)]) rfl trivial (enters_of Try.func89 (by kernel_rfl) rfl)
    hstp kpS_t (kpS_b (Nat.le_refl _)) (Below.refl _ _) (fun _ => rfl)
    (fun (pre : List Int) W => (∃ v, Boxed W A 24 v ∧ W.ownsRow W3.heap.size 3 1 v pre.length (pre.map encI) ∧ True) ∧ Below w.heap.size w W ∧ W3.heap.size ≤ W.heap.size)
    (fun _ _ _ => False)
    (OwnFrom.and (Own.from (holdsRow_own W3.heap.size A 24 3 1 (fun pre : List Int => pre.length) (fun pre : List Int => pre.map encI) (fun _ _ => True)) _) (OwnFrom.and (ownFrom_below (Nat.le_refl _) (by omega)) (fun _ _ _ _ hs hg _ => Nat.le_trans hs hg.size)))
    (fun _ _ _ _ _ hs _ _ => hs)
    ⟨⟨_, bO, World.ownsRow_nil _ _ _ _, trivial⟩, hB0, Nat.le_refl _⟩
    ?a1 ?assign ?body ?done ?stop
  case assign =>
    intro l x W K hK
    gi_wp2
    exact hK
  case body =>
    rintro l pre x W ⟨⟨v, hv, hrow, _⟩, hB, hle⟩ hlt
    have hc := hv.cell
    have hlt' : pre.length < 256 := by omega
    gi_wp2_with (gi_at_builtin; refine wpListIn_append_own _ rfl _ _ 24 rfl W3.heap.size 3 i0 (.int .i64 0) 1 8 Try.underlying24 hi hz0 hz1 hz2 rfl (by decide) _ _ _ rfl (hrow.alloc _) ⟨W.heap.size, 0, none⟩ 1 1 [.int .i64 x] rfl rfl (cell_one_new _ _ _) (by simp [Value.oneCell']) (by unfold maxLen; omega) (by omega) (by simp; omega) ?_; intro v' w1' hown' hgrow _; obtain ⟨g', cap', rfl⟩ := ownsRow_succ hown'; obtain ⟨hv1, hv2, hr2, hk2, hb2, hkp2⟩ := boxed_appendedK (n1 := w.heap.size) hv (by decide) hrow (by omega) hle (by omega) hown' hgrow; have hc1 := hv1.cell; have hf1' := hv1.frozen)
    exact ⟨hk2.from _, hkp2, ⟨_, hv2, by simpa [encI] using hr2, trivial⟩, hB.trans hb2, Nat.le_trans hle hk2.size⟩
  case done =>
    rintro D ys W hD rfl ⟨⟨v, hv, hrow, _⟩, hB, hle⟩ hK
    have hc := hv.cell
    gi_wp2
    refine ⟨by simp, .inl ⟨_, _, rfl, run_takeDeferred hK, ?_⟩⟩
    refine ⟨_, results_tmp2 rfl _ _ _, v, rfl, ownsRow_base_a' (ownsRow_putObj hrow _ hK rfl) (by omega), Fr.of_below (hB.trans (belowK_b (w := w) (Nat.le_refl _) W D _ _ (by omega) hK rfl rfl))⟩
  case stop =>
    rintro D c pre W _ _ h _
    exact h.elim

end Go.Proofs.Ytcefadbnmpjeiaa
