/-
  Or, And, Minus: both masks' words, one by one (made by gen_each.py).
-/
import Derived.Test.YtcefadbnmpjeiaaRef3M
import Derived.Test.YtcefadbnmpjeiaaMaskEq
namespace Go.Proofs.Ytcefadbnmpjeiaa
open Go.RowKit Go.Maps

/-- The words g up to k, then the words f. -/
def mixM (f g : Nat → Nat) (k : Nat) : Array Value := #[.int .u64 ((if 0 < k then g 0 else f 0 : Nat) : Int), .int .u64 ((if 1 < k then g 1 else f 1 : Nat) : Int), .int .u64 ((if 2 < k then g 2 else f 2 : Nat) : Int), .int .u64 ((if 3 < k then g 3 else f 3 : Nat) : Int)]
theorem mixM_zero (f g : Nat → Nat) : mixM f g 0 = #[.int .u64 (f 0 : Nat), .int .u64 (f 1 : Nat), .int .u64 (f 2 : Nat), .int .u64 (f 3 : Nat)] := rfl
theorem mixM_four (f g : Nat → Nat) : mixM f g 4 = #[.int .u64 (g 0 : Nat), .int .u64 (g 1 : Nat), .int .u64 (g 2 : Nat), .int .u64 (g 3 : Nat)] := rfl
theorem mixM_at (f g : Nat → Nat) (k : Nat) (hk : k < 4) : (mixM f g k)[k]? = some (.int .u64 (f k : Nat)) := by
  match k, hk with
  | 0, _ => rfl
  | 1, _ => rfl
  | 2, _ => rfl
  | 3, _ => rfl
theorem mixM_succ (f g : Nat → Nat) (k : Nat) (hk : k < 4) : (mixM f g k).setIfInBounds k (.int .u64 (g k : Nat)) = mixM f g (k + 1) := by
  match k, hk with
  | 0, _ => rfl
  | 1, _ => rfl
  | 2, _ => rfl
  | 3, _ => rfl

def orM (M N : Nat) : Nat := M ||| N
def andM (M N : Nat) : Nat := M &&& N
def minusM (M N : Nat) : Nat := M ^^^ (M &&& N)

theorem word_or (M N k : Nat) : wordM (orM M N) k = wordM M k ||| wordM N k := by
  refine word_ext (wordM_lt _ _) (Nat.or_lt_two_pow (n := 64) (wordM_lt _ _) (wordM_lt _ _)) fun i hi => ?_
  rw [wordM_bit _ _ _ hi, Nat.testBit_or, wordM_bit _ _ _ hi, wordM_bit _ _ _ hi, orM, Nat.testBit_or]
theorem word_and (M N k : Nat) : wordM (andM M N) k = wordM M k &&& wordM N k := by
  refine word_ext (wordM_lt _ _) (Nat.lt_of_le_of_lt Nat.and_le_left (wordM_lt M k)) fun i hi => ?_
  rw [wordM_bit _ _ _ hi, Nat.testBit_and, wordM_bit _ _ _ hi, wordM_bit _ _ _ hi, andM, Nat.testBit_and]
theorem word_minus (M N k : Nat) : wordM (minusM M N) k = wordM M k ^^^ (wordM M k &&& wordM N k) := by
  refine word_ext (wordM_lt _ _) (Nat.xor_lt_two_pow (n := 64) (wordM_lt _ _) (Nat.lt_of_le_of_lt Nat.and_le_left (wordM_lt M k))) fun i hi => ?_
  rw [wordM_bit _ _ _ hi, Nat.testBit_xor, Nat.testBit_and, wordM_bit _ _ _ hi, wordM_bit _ _ _ hi, minusM, Nat.testBit_xor, Nat.testBit_and]

theorem bits_andNot_u64_nat (a b : Nat) (ha : a < 18446744073709551616) (hb : b < 18446744073709551616) :
    bits .andNot .u64 (a : Int) (b : Int) = ((a ^^^ (a &&& b) : Nat) : Int) := by
  have hx : a ^^^ (a &&& b) < 2 ^ 64 := Nat.xor_lt_two_pow (by omega) (Nat.lt_of_le_of_lt Nat.and_le_left (by omega))
  have h1 : (BitVec.ofInt 64 (a : Int)).toNat = a := by
    rw [BitVec.ofInt_natCast, BitVec.toNat_ofNat]; exact Nat.mod_eq_of_lt (by omega)
  have h2 : (BitVec.ofInt 64 (b : Int)).toNat = b := by
    rw [BitVec.ofInt_natCast, BitVec.toNat_ofNat]; exact Nat.mod_eq_of_lt (by omega)
  have h3 : ∀ x y : BitVec 64, x &&& ~~~ y = x ^^^ (x &&& y) := fun x y => by
    refine BitVec.eq_of_getLsbD_eq fun i hi => ?_
    rw [BitVec.getLsbD_and, BitVec.getLsbD_not, BitVec.getLsbD_xor, BitVec.getLsbD_and]
    cases x.getLsbD i <;> cases y.getLsbD i <;> simp [hi]
  show IntKind.u64.wrap ((BitVec.ofInt 64 (a : Int) &&& ~~~ BitVec.ofInt 64 (b : Int)).toNat : Int) = _
  rw [h3, BitVec.toNat_xor, BitVec.toNat_and, h1, h2, IntKind.wrap_u64]
  omega

theorem clos_or (a b : Nat) (ha : a < 18446744073709551616) (hb : b < 18446744073709551616) (w : World) : Calls Try.prog 62 #[.int .u64 a, .int .u64 b] w fun e w' => e = .returned (.int .u64 ((a ||| b : Nat) : Int)) ∧ Fr (fun _ => False) w w' := by
  have hq := bits_or_u64_nat a b ha hb
  go_enter Try.func62, Try.ntmps62
  go_wp2
  go_ret
  exact ⟨rfl, Fr.refl _ _⟩

set_option maxRecDepth 20000 in
set_option maxHeartbeats 1000000 in
theorem each_or (M N : Nat) (w : World) : Calls Try.prog 61 #[valM M, valM N, .func (.func 62) #[] #[]] w fun e w' => e = .returned (valM (orM M N)) ∧ Fr (fun _ => False) w w' := by
  have hps := mixM_succ (wordM M) (wordM (orM M N))
  have hat := mixM_at (wordM M) (wordM (orM M N))
  have h0 := mixM_zero (wordM M) (wordM (orM M N))
  have h4 := mixM_four (wordM M) (wordM (orM M N))
  have B := ((Blk.new w 33 (cellsM M)).alloc (.cells (cellsM N) 33)).alloc (.cells #[.int .u64 0, .int .u64 0, .int .u64 0, .int .u64 0] 33)
  have C := (Blk.new (w.alloc (.cells (cellsM M) 33)) 33 (cellsM N)).alloc (.cells #[.int .u64 0, .int .u64 0, .int .u64 0, .int .u64 0] 33)
  have Z := Blk.new ((w.alloc (.cells (cellsM M) 33)).alloc (.cells (cellsM N) 33)) 33 #[.int .u64 0, .int .u64 0, .int .u64 0, .int .u64 0]
  rw [World.size_alloc] at C
  rw [World.size_alloc, World.size_alloc] at Z
  have HF := Lib.hid ((((Fr.refl (fun _ => False) w).alloc (.cells (cellsM M) 33)).alloc (.cells (cellsM N) 33)).alloc (.cells #[.int .u64 0, .int .u64 0, .int .u64 0, .int .u64 0] 33))
  have HB := Lib.hid B
  have HC := Lib.hid C
  have HZ := Lib.hid Z
  have HPS := Lib.hid hps
  have HAT := Lib.hid hat
  have H0 := Lib.hid h0
  have H4 := Lib.hid h4
  clear B C Z hps hat h0 h4
  unfold valM
  simp only [Ytcefadbnmpjeiaa.cellsM] at *
  go_enter Try.func61, Try.ntmps61
  go_wp2_with fail
  go_loopw [7, 8] (fun _ i wr => ∃ k : Nat, k ≤ 4 ∧ i = .int .i64 k ∧ Blk wr w.heap.size 33 (mixM (wordM M) (wordM (orM M N)) k) ∧ Blk wr (w.heap.size + 1) 33 (cellsM N) ∧ Blk wr (w.heap.size + 2) 33 #[.int .u64 0, .int .u64 0, .int .u64 0, .int .u64 0] ∧ Fr (fun _ => False) w wr) (fun _ i _ => 4 - (intOf i).toNat)
  case atStart => exact ⟨0, by decide, rfl, by rw [H0.out]; exact HB.out, HC.out, HZ.out, HF.out⟩
  case round =>
    obtain ⟨k, hk, rfl, hb, hc, hz, hfr⟩ := hrel
    by_cases hlt : k < 4
    · have hk4 : decide ((k : Int) < 4) = true := decide_eq_true (by omega)
      have c1 := (hb.cell k).trans (HAT.out k hlt)
      have c2 := (hc.cell k).trans (cellsM_get N k hlt)
      have hx := clos_or (wordM M k) (wordM N k) (wordM_lt _ _) (wordM_lt _ _)
      rw [← word_or M N k] at hx
      have HPK := Lib.hid (HPS.out k hlt)
      generalize wordM M k = x at *
      generalize wordM N k = y at *
      generalize wordM (orM M N) k = z at *
      have HX := Lib.hid hx
      have BB := Lib.hid hb
      have CC := Lib.hid hc
      have ZZ := Lib.hid hz
      have l1 := Later.cell c1
      have l2 := Later.cell c2
      clear hx hb hc hz c1 c2
      go_wp2_with fail
      refine wp_region_later_tail wr 10 (by kernel_rfl) (by kernel_rfl) (Fr.refl _ _) ?_
      simp only [List.take_succ_cons, List.take_zero, List.drop_succ_cons, List.drop_zero]
      repeat (go_big_quiet_step (first | (go_at_call 62; exact later_call (HX.out _))))
      refine wpQuiet_nil ?_
      rintro _ ⟨d, rfl⟩
      have hb2 := BB.out.fr d.fr (fun h => h)
      have c3 := hb2.cell k
      have f3 := hb2.frozen k
      have k1 := l1 d
      clear l1 l2 c3
      go_wp2_with fail
      go_roundw
      case rel =>
        refine ⟨k + 1, by omega, by go_num, ?_, (CC.out.fr d.fr (fun h => h)).far (by simp) _, (ZZ.out.fr d.fr (fun h => h)).far (by simp) _, (hfr.then d.fr).setCell (Or.inr (Nat.le_refl _)) _⟩
        rw [← HPK.out]
        exact hb2.set_ k _
      case measure => simp [intOf]; omega
    · obtain rfl : k = 4 := by omega
      rw [H4.out] at hb
      have c0 := hb.cell 0
      have c1 := hb.cell 1
      have c2 := hb.cell 2
      have c3 := hb.cell 3
      obtain ⟨f0, f1, f2, f3⟩ := hz.frozenM
      have z0 := fun i => hz.cell i
      have HFR := Lib.hid hfr
      clear hfr hz hb hc
      go_wp2
      (try simp only [Exit.inBlock, Exit.then])
      have hsz : w.heap.size ≤ w.heap.size + 2 := by omega
      refine bodyPost_ret (v := valM (orM M N)) ?_ rfl ⟨rfl, HFR.out.setM (Or.inr hsz) _ _ _ _⟩
      rw [results_cell1 rfl]
      unfold valM cellsM
      go_simp

set_option maxRecDepth 20000 in
theorem or_any (M N : Nat) (w : World) : Calls Try.prog 30 #[valM M, valM N] w fun e w' => e = .returned (valM (orM M N)) ∧ Fr (fun _ => False) w w' := by
  have H61 := Lib.hid (fun W => each_or M N W)
  have B := ((Blk.new w 33 (cellsM M)).alloc (.cells (cellsM N) 33)).alloc (.cells #[.int .u64 0, .int .u64 0, .int .u64 0, .int .u64 0] 33)
  have C := (Blk.new (w.alloc (.cells (cellsM M) 33)) 33 (cellsM N)).alloc (.cells #[.int .u64 0, .int .u64 0, .int .u64 0, .int .u64 0] 33)
  have Z := Blk.new ((w.alloc (.cells (cellsM M) 33)).alloc (.cells (cellsM N) 33)) 33 #[.int .u64 0, .int .u64 0, .int .u64 0, .int .u64 0]
  rw [World.size_alloc] at C
  rw [World.size_alloc, World.size_alloc] at Z
  have HF := Lib.hid ((((Fr.refl (fun _ => False) w).alloc (.cells (cellsM M) 33)).alloc (.cells (cellsM N) 33)).alloc (.cells #[.int .u64 0, .int .u64 0, .int .u64 0, .int .u64 0] 33))
  have HZ := Lib.hid Z
  obtain ⟨m0, m1, m2, m3⟩ := B.cellsM
  obtain ⟨n0, n1, n2, n3⟩ := C.cellsM
  clear B C Z
  unfold valM at *
  simp only [Ytcefadbnmpjeiaa.cellsM] at *
  go_enter Try.func30, Try.ntmps30
  go_wp2_with fail
  refine (H61.out _).mono ?_
  rintro e w1 ⟨rfl, hf1⟩
  have hz := HZ.out.fr hf1 (fun h => h)
  obtain ⟨f0, f1, f2, f3⟩ := hz.frozenM
  have z0 := fun i => hz.cell i
  have HFR := Lib.hid (HF.out.then hf1)
  clear m0 m1 m2 m3 n0 n1 n2 n3 hz hf1
  go_wp2
  (try simp only [Exit.inBlock, Exit.then])
  have hsz : w.heap.size ≤ w.heap.size + 2 := by omega
  refine bodyPost_ret (v := .agg #[.int .u64 (wordM (orM M N) 0 : Nat), .int .u64 (wordM (orM M N) 1 : Nat), .int .u64 (wordM (orM M N) 2 : Nat), .int .u64 (wordM (orM M N) 3 : Nat)]) ?_ rfl ⟨rfl, HFR.out.setM (Or.inr hsz) _ _ _ _⟩
  rw [results_cell1 rfl]
  go_simp

theorem clos_and (a b : Nat) (ha : a < 18446744073709551616) (hb : b < 18446744073709551616) (w : World) : Calls Try.prog 64 #[.int .u64 a, .int .u64 b] w fun e w' => e = .returned (.int .u64 ((a &&& b : Nat) : Int)) ∧ Fr (fun _ => False) w w' := by
  have hq := bits_and_u64_nat a b ha hb
  go_enter Try.func64, Try.ntmps64
  go_wp2
  go_ret
  exact ⟨rfl, Fr.refl _ _⟩

set_option maxRecDepth 20000 in
set_option maxHeartbeats 1000000 in
theorem each_and (M N : Nat) (w : World) : Calls Try.prog 61 #[valM M, valM N, .func (.func 64) #[] #[]] w fun e w' => e = .returned (valM (andM M N)) ∧ Fr (fun _ => False) w w' := by
  have hps := mixM_succ (wordM M) (wordM (andM M N))
  have hat := mixM_at (wordM M) (wordM (andM M N))
  have h0 := mixM_zero (wordM M) (wordM (andM M N))
  have h4 := mixM_four (wordM M) (wordM (andM M N))
  have B := ((Blk.new w 33 (cellsM M)).alloc (.cells (cellsM N) 33)).alloc (.cells #[.int .u64 0, .int .u64 0, .int .u64 0, .int .u64 0] 33)
  have C := (Blk.new (w.alloc (.cells (cellsM M) 33)) 33 (cellsM N)).alloc (.cells #[.int .u64 0, .int .u64 0, .int .u64 0, .int .u64 0] 33)
  have Z := Blk.new ((w.alloc (.cells (cellsM M) 33)).alloc (.cells (cellsM N) 33)) 33 #[.int .u64 0, .int .u64 0, .int .u64 0, .int .u64 0]
  rw [World.size_alloc] at C
  rw [World.size_alloc, World.size_alloc] at Z
  have HF := Lib.hid ((((Fr.refl (fun _ => False) w).alloc (.cells (cellsM M) 33)).alloc (.cells (cellsM N) 33)).alloc (.cells #[.int .u64 0, .int .u64 0, .int .u64 0, .int .u64 0] 33))
  have HB := Lib.hid B
  have HC := Lib.hid C
  have HZ := Lib.hid Z
  have HPS := Lib.hid hps
  have HAT := Lib.hid hat
  have H0 := Lib.hid h0
  have H4 := Lib.hid h4
  clear B C Z hps hat h0 h4
  unfold valM
  simp only [Ytcefadbnmpjeiaa.cellsM] at *
  go_enter Try.func61, Try.ntmps61
  go_wp2_with fail
  go_loopw [7, 8] (fun _ i wr => ∃ k : Nat, k ≤ 4 ∧ i = .int .i64 k ∧ Blk wr w.heap.size 33 (mixM (wordM M) (wordM (andM M N)) k) ∧ Blk wr (w.heap.size + 1) 33 (cellsM N) ∧ Blk wr (w.heap.size + 2) 33 #[.int .u64 0, .int .u64 0, .int .u64 0, .int .u64 0] ∧ Fr (fun _ => False) w wr) (fun _ i _ => 4 - (intOf i).toNat)
  case atStart => exact ⟨0, by decide, rfl, by rw [H0.out]; exact HB.out, HC.out, HZ.out, HF.out⟩
  case round =>
    obtain ⟨k, hk, rfl, hb, hc, hz, hfr⟩ := hrel
    by_cases hlt : k < 4
    · have hk4 : decide ((k : Int) < 4) = true := decide_eq_true (by omega)
      have c1 := (hb.cell k).trans (HAT.out k hlt)
      have c2 := (hc.cell k).trans (cellsM_get N k hlt)
      have hx := clos_and (wordM M k) (wordM N k) (wordM_lt _ _) (wordM_lt _ _)
      rw [← word_and M N k] at hx
      have HPK := Lib.hid (HPS.out k hlt)
      generalize wordM M k = x at *
      generalize wordM N k = y at *
      generalize wordM (andM M N) k = z at *
      have HX := Lib.hid hx
      have BB := Lib.hid hb
      have CC := Lib.hid hc
      have ZZ := Lib.hid hz
      have l1 := Later.cell c1
      have l2 := Later.cell c2
      clear hx hb hc hz c1 c2
      go_wp2_with fail
      refine wp_region_later_tail wr 10 (by kernel_rfl) (by kernel_rfl) (Fr.refl _ _) ?_
      simp only [List.take_succ_cons, List.take_zero, List.drop_succ_cons, List.drop_zero]
      repeat (go_big_quiet_step (first | (go_at_call 64; exact later_call (HX.out _))))
      refine wpQuiet_nil ?_
      rintro _ ⟨d, rfl⟩
      have hb2 := BB.out.fr d.fr (fun h => h)
      have c3 := hb2.cell k
      have f3 := hb2.frozen k
      have k1 := l1 d
      clear l1 l2 c3
      go_wp2_with fail
      go_roundw
      case rel =>
        refine ⟨k + 1, by omega, by go_num, ?_, (CC.out.fr d.fr (fun h => h)).far (by simp) _, (ZZ.out.fr d.fr (fun h => h)).far (by simp) _, (hfr.then d.fr).setCell (Or.inr (Nat.le_refl _)) _⟩
        rw [← HPK.out]
        exact hb2.set_ k _
      case measure => simp [intOf]; omega
    · obtain rfl : k = 4 := by omega
      rw [H4.out] at hb
      have c0 := hb.cell 0
      have c1 := hb.cell 1
      have c2 := hb.cell 2
      have c3 := hb.cell 3
      obtain ⟨f0, f1, f2, f3⟩ := hz.frozenM
      have z0 := fun i => hz.cell i
      have HFR := Lib.hid hfr
      clear hfr hz hb hc
      go_wp2
      (try simp only [Exit.inBlock, Exit.then])
      have hsz : w.heap.size ≤ w.heap.size + 2 := by omega
      refine bodyPost_ret (v := valM (andM M N)) ?_ rfl ⟨rfl, HFR.out.setM (Or.inr hsz) _ _ _ _⟩
      rw [results_cell1 rfl]
      unfold valM cellsM
      go_simp

set_option maxRecDepth 20000 in
theorem and_any (M N : Nat) (w : World) : Calls Try.prog 32 #[valM M, valM N] w fun e w' => e = .returned (valM (andM M N)) ∧ Fr (fun _ => False) w w' := by
  have H61 := Lib.hid (fun W => each_and M N W)
  have B := ((Blk.new w 33 (cellsM M)).alloc (.cells (cellsM N) 33)).alloc (.cells #[.int .u64 0, .int .u64 0, .int .u64 0, .int .u64 0] 33)
  have C := (Blk.new (w.alloc (.cells (cellsM M) 33)) 33 (cellsM N)).alloc (.cells #[.int .u64 0, .int .u64 0, .int .u64 0, .int .u64 0] 33)
  have Z := Blk.new ((w.alloc (.cells (cellsM M) 33)).alloc (.cells (cellsM N) 33)) 33 #[.int .u64 0, .int .u64 0, .int .u64 0, .int .u64 0]
  rw [World.size_alloc] at C
  rw [World.size_alloc, World.size_alloc] at Z
  have HF := Lib.hid ((((Fr.refl (fun _ => False) w).alloc (.cells (cellsM M) 33)).alloc (.cells (cellsM N) 33)).alloc (.cells #[.int .u64 0, .int .u64 0, .int .u64 0, .int .u64 0] 33))
  have HZ := Lib.hid Z
  obtain ⟨m0, m1, m2, m3⟩ := B.cellsM
  obtain ⟨n0, n1, n2, n3⟩ := C.cellsM
  clear B C Z
  unfold valM at *
  simp only [Ytcefadbnmpjeiaa.cellsM] at *
  go_enter Try.func32, Try.ntmps32
  go_wp2_with fail
  refine (H61.out _).mono ?_
  rintro e w1 ⟨rfl, hf1⟩
  have hz := HZ.out.fr hf1 (fun h => h)
  obtain ⟨f0, f1, f2, f3⟩ := hz.frozenM
  have z0 := fun i => hz.cell i
  have HFR := Lib.hid (HF.out.then hf1)
  clear m0 m1 m2 m3 n0 n1 n2 n3 hz hf1
  go_wp2
  (try simp only [Exit.inBlock, Exit.then])
  have hsz : w.heap.size ≤ w.heap.size + 2 := by omega
  refine bodyPost_ret (v := .agg #[.int .u64 (wordM (andM M N) 0 : Nat), .int .u64 (wordM (andM M N) 1 : Nat), .int .u64 (wordM (andM M N) 2 : Nat), .int .u64 (wordM (andM M N) 3 : Nat)]) ?_ rfl ⟨rfl, HFR.out.setM (Or.inr hsz) _ _ _ _⟩
  rw [results_cell1 rfl]
  go_simp

theorem clos_minus (a b : Nat) (ha : a < 18446744073709551616) (hb : b < 18446744073709551616) (w : World) : Calls Try.prog 65 #[.int .u64 a, .int .u64 b] w fun e w' => e = .returned (.int .u64 ((a ^^^ (a &&& b) : Nat) : Int)) ∧ Fr (fun _ => False) w w' := by
  have hq := bits_andNot_u64_nat a b ha hb
  go_enter Try.func65, Try.ntmps65
  go_wp2
  go_ret
  exact ⟨rfl, Fr.refl _ _⟩

set_option maxRecDepth 20000 in
set_option maxHeartbeats 1000000 in
theorem each_minus (M N : Nat) (w : World) : Calls Try.prog 61 #[valM M, valM N, .func (.func 65) #[] #[]] w fun e w' => e = .returned (valM (minusM M N)) ∧ Fr (fun _ => False) w w' := by
  have hps := mixM_succ (wordM M) (wordM (minusM M N))
  have hat := mixM_at (wordM M) (wordM (minusM M N))
  have h0 := mixM_zero (wordM M) (wordM (minusM M N))
  have h4 := mixM_four (wordM M) (wordM (minusM M N))
  have B := ((Blk.new w 33 (cellsM M)).alloc (.cells (cellsM N) 33)).alloc (.cells #[.int .u64 0, .int .u64 0, .int .u64 0, .int .u64 0] 33)
  have C := (Blk.new (w.alloc (.cells (cellsM M) 33)) 33 (cellsM N)).alloc (.cells #[.int .u64 0, .int .u64 0, .int .u64 0, .int .u64 0] 33)
  have Z := Blk.new ((w.alloc (.cells (cellsM M) 33)).alloc (.cells (cellsM N) 33)) 33 #[.int .u64 0, .int .u64 0, .int .u64 0, .int .u64 0]
  rw [World.size_alloc] at C
  rw [World.size_alloc, World.size_alloc] at Z
  have HF := Lib.hid ((((Fr.refl (fun _ => False) w).alloc (.cells (cellsM M) 33)).alloc (.cells (cellsM N) 33)).alloc (.cells #[.int .u64 0, .int .u64 0, .int .u64 0, .int .u64 0] 33))
  have HB := Lib.hid B
  have HC := Lib.hid C
  have HZ := Lib.hid Z
  have HPS := Lib.hid hps
  have HAT := Lib.hid hat
  have H0 := Lib.hid h0
  have H4 := Lib.hid h4
  clear B C Z hps hat h0 h4
  unfold valM
  simp only [Ytcefadbnmpjeiaa.cellsM] at *
  go_enter Try.func61, Try.ntmps61
  go_wp2_with fail
  go_loopw [7, 8] (fun _ i wr => ∃ k : Nat, k ≤ 4 ∧ i = .int .i64 k ∧ Blk wr w.heap.size 33 (mixM (wordM M) (wordM (minusM M N)) k) ∧ Blk wr (w.heap.size + 1) 33 (cellsM N) ∧ Blk wr (w.heap.size + 2) 33 #[.int .u64 0, .int .u64 0, .int .u64 0, .int .u64 0] ∧ Fr (fun _ => False) w wr) (fun _ i _ => 4 - (intOf i).toNat)
  case atStart => exact ⟨0, by decide, rfl, by rw [H0.out]; exact HB.out, HC.out, HZ.out, HF.out⟩
  case round =>
    obtain ⟨k, hk, rfl, hb, hc, hz, hfr⟩ := hrel
    by_cases hlt : k < 4
    · have hk4 : decide ((k : Int) < 4) = true := decide_eq_true (by omega)
      have c1 := (hb.cell k).trans (HAT.out k hlt)
      have c2 := (hc.cell k).trans (cellsM_get N k hlt)
      have hx := clos_minus (wordM M k) (wordM N k) (wordM_lt _ _) (wordM_lt _ _)
      rw [← word_minus M N k] at hx
      have HPK := Lib.hid (HPS.out k hlt)
      generalize wordM M k = x at *
      generalize wordM N k = y at *
      generalize wordM (minusM M N) k = z at *
      have HX := Lib.hid hx
      have BB := Lib.hid hb
      have CC := Lib.hid hc
      have ZZ := Lib.hid hz
      have l1 := Later.cell c1
      have l2 := Later.cell c2
      clear hx hb hc hz c1 c2
      go_wp2_with fail
      refine wp_region_later_tail wr 10 (by kernel_rfl) (by kernel_rfl) (Fr.refl _ _) ?_
      simp only [List.take_succ_cons, List.take_zero, List.drop_succ_cons, List.drop_zero]
      repeat (go_big_quiet_step (first | (go_at_call 65; exact later_call (HX.out _))))
      refine wpQuiet_nil ?_
      rintro _ ⟨d, rfl⟩
      have hb2 := BB.out.fr d.fr (fun h => h)
      have c3 := hb2.cell k
      have f3 := hb2.frozen k
      have k1 := l1 d
      clear l1 l2 c3
      go_wp2_with fail
      go_roundw
      case rel =>
        refine ⟨k + 1, by omega, by go_num, ?_, (CC.out.fr d.fr (fun h => h)).far (by simp) _, (ZZ.out.fr d.fr (fun h => h)).far (by simp) _, (hfr.then d.fr).setCell (Or.inr (Nat.le_refl _)) _⟩
        rw [← HPK.out]
        exact hb2.set_ k _
      case measure => simp [intOf]; omega
    · obtain rfl : k = 4 := by omega
      rw [H4.out] at hb
      have c0 := hb.cell 0
      have c1 := hb.cell 1
      have c2 := hb.cell 2
      have c3 := hb.cell 3
      obtain ⟨f0, f1, f2, f3⟩ := hz.frozenM
      have z0 := fun i => hz.cell i
      have HFR := Lib.hid hfr
      clear hfr hz hb hc
      go_wp2
      (try simp only [Exit.inBlock, Exit.then])
      have hsz : w.heap.size ≤ w.heap.size + 2 := by omega
      refine bodyPost_ret (v := valM (minusM M N)) ?_ rfl ⟨rfl, HFR.out.setM (Or.inr hsz) _ _ _ _⟩
      rw [results_cell1 rfl]
      unfold valM cellsM
      go_simp

set_option maxRecDepth 20000 in
theorem minus_any (M N : Nat) (w : World) : Calls Try.prog 33 #[valM M, valM N] w fun e w' => e = .returned (valM (minusM M N)) ∧ Fr (fun _ => False) w w' := by
  have H61 := Lib.hid (fun W => each_minus M N W)
  have B := ((Blk.new w 33 (cellsM M)).alloc (.cells (cellsM N) 33)).alloc (.cells #[.int .u64 0, .int .u64 0, .int .u64 0, .int .u64 0] 33)
  have C := (Blk.new (w.alloc (.cells (cellsM M) 33)) 33 (cellsM N)).alloc (.cells #[.int .u64 0, .int .u64 0, .int .u64 0, .int .u64 0] 33)
  have Z := Blk.new ((w.alloc (.cells (cellsM M) 33)).alloc (.cells (cellsM N) 33)) 33 #[.int .u64 0, .int .u64 0, .int .u64 0, .int .u64 0]
  rw [World.size_alloc] at C
  rw [World.size_alloc, World.size_alloc] at Z
  have HF := Lib.hid ((((Fr.refl (fun _ => False) w).alloc (.cells (cellsM M) 33)).alloc (.cells (cellsM N) 33)).alloc (.cells #[.int .u64 0, .int .u64 0, .int .u64 0, .int .u64 0] 33))
  have HZ := Lib.hid Z
  obtain ⟨m0, m1, m2, m3⟩ := B.cellsM
  obtain ⟨n0, n1, n2, n3⟩ := C.cellsM
  clear B C Z
  unfold valM at *
  simp only [Ytcefadbnmpjeiaa.cellsM] at *
  go_enter Try.func33, Try.ntmps33
  go_wp2_with fail
  refine (H61.out _).mono ?_
  rintro e w1 ⟨rfl, hf1⟩
  have hz := HZ.out.fr hf1 (fun h => h)
  obtain ⟨f0, f1, f2, f3⟩ := hz.frozenM
  have z0 := fun i => hz.cell i
  have HFR := Lib.hid (HF.out.then hf1)
  clear m0 m1 m2 m3 n0 n1 n2 n3 hz hf1
  go_wp2
  (try simp only [Exit.inBlock, Exit.then])
  have hsz : w.heap.size ≤ w.heap.size + 2 := by omega
  refine bodyPost_ret (v := .agg #[.int .u64 (wordM (minusM M N) 0 : Nat), .int .u64 (wordM (minusM M N) 1 : Nat), .int .u64 (wordM (minusM M N) 2 : Nat), .int .u64 (wordM (minusM M N) 3 : Nat)]) ?_ rfl ⟨rfl, HFR.out.setM (Or.inr hsz) _ _ _ _⟩
  rw [results_cell1 rfl]
  go_simp

end Go.Proofs.Ytcefadbnmpjeiaa

