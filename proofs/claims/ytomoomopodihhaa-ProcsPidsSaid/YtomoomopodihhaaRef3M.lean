/-
  The reference's masks: Make.
-/
import Derived.Test.YtomoomopodihhaaRef3
namespace Go.Proofs.Ytomoomopodihhaa
open Go.RowKit Go.Maps

/-- A mask's cells of which the first k words are laid. -/
def partM (M k : Nat) : Array Value := #[.int .u64 (if 0 < k then (wordM M 0 : Nat) else 0 : Int), .int .u64 (if 1 < k then (wordM M 1 : Nat) else 0 : Int), .int .u64 (if 2 < k then (wordM M 2 : Nat) else 0 : Int), .int .u64 (if 3 < k then (wordM M 3 : Nat) else 0 : Int)]
theorem partM_zero (M : Nat) : partM M 0 = #[.int .u64 0, .int .u64 0, .int .u64 0, .int .u64 0] := rfl
theorem partM_four (M : Nat) : partM M 4 = cellsM M := rfl
theorem partM_at (M k : Nat) (hk : k < 4) : (partM M k)[k]? = some (.int .u64 0) := by
  match k, hk with
  | 0, _ => rfl
  | 1, _ => rfl
  | 2, _ => rfl
  | 3, _ => rfl
theorem partM_succ (M k : Nat) (hk : k < 4) : (partM M k).setIfInBounds k (.int .u64 (wordM M k : Nat)) = partM M (k + 1) := by
  match k, hk with
  | 0, _ => rfl
  | 1, _ => rfl
  | 2, _ => rfl
  | 3, _ => rfl

theorem make_bit (L : List Int) (k i : Nat) (hk : k < 4) (hi : i < 64) : (L.any fun y => y == 64 * (k : Int) + (i : Int)) = (wordM (makeM L) k).testBit i := by
  rw [wordM_bit _ _ _ hi, makeM_bit _ _ (by omega)]
  have : ((64 * k + i : Nat) : Int) = 64 * (k : Int) + (i : Int) := by omega
  rw [this]

set_option maxHeartbeats 2000000 in
theorem make_any (w : World) (v : Value) (L : List Int) (h : IntsV w v L) (hl : L.length ≤ maxLen) :
    Calls Try.prog 91 #[v] w fun e w' => e = .returned (valM (makeM L)) ∧ Fr (fun _ => False) w w' := by
  have HV := Lib.hid h
  obtain ⟨A, cap, rfl, _⟩ := h
  have hbit := fun k i hk hi => make_bit L k i hk hi
  generalize makeM L = M at *
  have HB := Lib.hid hbit
  have B0 := (Blk.new w 110 (partM M 0)).alloc (.cells (partM M 0) 110)
  have B1 := Blk.new (w.alloc (.cells (partM M 0) 110)) 110 (partM M 0)
  have F1 := ((Fr.refl (fun _ => False) w).alloc (.cells (partM M 0) 110)).alloc (.cells (partM M 0) 110)
  rw [World.size_alloc] at B1
  rw [partM_zero] at B0 B1 F1
  have HB0 := Lib.hid B0
  have HB1 := Lib.hid B1
  have HF1 := Lib.hid F1
  clear hbit B0 B1 F1
  go_enter Try.func91, Try.ntmps91
  go_wp2
  go_loopw [4] (fun i wr => ∃ k : Nat, k ≤ 4 ∧ i = .int .i64 k ∧ Blk wr w.heap.size 110 (partM M 0) ∧ Blk wr (w.heap.size + 1) 110 (partM M k) ∧ Fr (fun _ => False) w wr) (fun i _ => 4 - (intOf i).toNat)
  case atStart => exact ⟨0, by omega, rfl, HB0.out, HB1.out, HF1.out⟩
  case round =>
    obtain ⟨k, hk, rfl, hz, ho, hfr⟩ := hrel
    by_cases hlt : k < 4
    · have HZ := Lib.hid hz
      have HO := Lib.hid ho
      have hwl := wordM_lt M k
      have hps := partM_succ M k hlt
      have HPS := Lib.hid hps
      have hpa := partM_at M k hlt
      have hbit := fun i hi => HB.out k i hlt hi
      generalize wordM M k = W at *
      have HBT := Lib.hid hbit
      have hk4 : decide ((k : Int) < 4) = true := decide_eq_true (by omega)
      clear hz ho hps hbit
      go_wp2
      go_loopw [5, 6] (fun n c wq => ∃ j : Nat, j ≤ 64 ∧ c = .int .i64 ((j : Int) - 1) ∧ n = .int .u64 ((W >>> j : Nat) : Int) ∧ wr = wq) (fun _ c _ => (intOf c + 1).toNat)
      case atStart =>
        refine ⟨64, by omega, rfl, ?_, rfl⟩
        rw [Nat.shiftRight_eq_div_pow, Nat.div_eq_of_lt (by omega)]
        rfl
      case round =>
        obtain ⟨j, hj, rfl, rfl, rfl⟩ := hrel
        cases j with
        | zero =>
          have hc := (HO.out.cell k).trans hpa
          have hf := HO.out.frozen k
          have e1 : (((0 : Nat) : Int) - 1) = -1 := by decide
          rw [e1, Nat.shiftRight_zero]
          clear hpa
          go_wp2
          go_roundw
          case rel =>
            refine ⟨k + 1, by omega, by go_num, HZ.out.far (by simp) _, ?_, hfr.setCell (Or.inr (by simp)) _⟩
            rw [← HPS.out]
            exact HO.out.set_ k _
          case measure => simp [intOf]; omega
        | succ i =>
          have e1 : (((i + 1 : Nat) : Int) - 1) = (i : Int) := by omega
          rw [e1]
          have hin := fun res hres => in_any wr _ L (HV.out.fr0 hfr) hl (64 * (k : Int) + (i : Int)) res hres
          have hT := HBT.out i (by omega)
          rw [hT] at hin
          have hsb := shr_back W i (by omega)
          have hle0 : W >>> i ≤ W := Nat.shiftRight_le _ _
          have hle : W >>> (i + 1) < 9223372036854775808 := by omega
          clear hle0
          generalize W >>> (i + 1) = n at *
          by_cases hb : W.testBit i = true
          · rw [if_pos hb] at hsb
            rw [hb] at hin
            have HIN := Lib.hid (hin true rfl)
            have HSB := Lib.hid hsb
            clear hin hsb hT hwl
            go_wp2_with (go_at_call 90; refine HIN.out.mono ?_; rintro e w1 ⟨rfl, rfl⟩)
            go_roundw
            case rel => exact ⟨i, by omega, rfl, by rw [HSB.out]; congr 1; omega, trivial⟩
            case measure => simp [intOf]
          · have hb : W.testBit i = false := by simpa using hb
            rw [if_neg (by simp [hb])] at hsb
            rw [hb] at hin
            have HIN := Lib.hid (hin false rfl)
            have HSB := Lib.hid hsb
            clear hin hsb hT hwl
            go_wp2_with (go_at_call 90; refine HIN.out.mono ?_; rintro e w1 ⟨rfl, rfl⟩)
            go_roundw
            case rel => exact ⟨i, by omega, rfl, by rw [HSB.out]; congr 1; omega, trivial⟩
            case measure => simp [intOf]
    · obtain rfl : k = 4 := by omega
      rw [partM_four] at ho
      rw [partM_zero] at hz
      obtain ⟨c0, c1, c2, c3⟩ := ho.cellsM
      obtain ⟨f0, f1, f2, f3⟩ := hz.frozenM
      have z0 := fun i => hz.cell i
      have HF := Lib.hid hfr
      clear hfr hz ho
      go_wp2
      (try simp only [Exit.inBlock, Exit.then])
      refine bodyPost_ret (v := valM M) ?_ rfl ⟨rfl, HF.out.setM (Or.inr (Nat.le_refl _)) _ _ _ _⟩
      rw [results_cell1 rfl]
      unfold valM cellsM
      go_simp

end Go.Proofs.Ytomoomopodihhaa
