/-
  The reference's All.
-/
import Derived.Test.YtcefadbnmpjeiaaC
namespace Go.Proofs.Ytcefadbnmpjeiaa
open Go.RowKit Go.Maps

theorem info3 : (Try.prog.info? 3).map (fun i => (i.zero, i.size, i.bytes)) = some (some (.int .i64 0), 1, 8) := by kernel_rfl

def encI (x : Int) : Value := .int .i64 x
/-- 0, 1, .., n - 1. -/
def upTo (n : Nat) : List Int := (List.range n).map fun k : Nat => (k : Int)
theorem upTo_succ (n : Nat) : upTo (n + 1) = upTo n ++ [(n : Int)] := by simp [upTo, List.range_succ]
theorem upTo_len (n : Nat) : (upTo n).length = n := by simp [upTo]
theorem bits_upTo (n : Nat) : bitsL (upTo n) = 2 ^ n - 1 := by
  induction n with
  | zero => rfl
  | succ n ih => rw [upTo_succ, bitsL_snoc, ih, Int.toNat_natCast, all_step]
theorem make_upTo (n : Nat) (hn : n ≤ 256) : makeM (upTo n) = 2 ^ n - 1 := by
  rw [makeM_good, bits_upTo]
  intro c hc
  obtain ⟨k, hk, rfl⟩ := List.mem_map.1 hc
  have := List.mem_range.1 hk
  omega

set_option maxRecDepth 20000 in
set_option maxHeartbeats 1000000 in
theorem all55_in (n : Nat) (hn : n ≤ 256) (w : World) : Calls Try.prog 55 #[.int .i64 n] w fun e w' => e = .returned (.tuple #[valM (2 ^ n - 1), .int .i64 0]) ∧ Fr (fun _ => False) w w' := by
  obtain ⟨i0, hi, hz0, hz1, hz2⟩ := info_parts info3
  have hmk := fun W v h => make_any W v (upTo n) h (by rw [upTo_len]; unfold maxLen; omega)
  rw [make_upTo n hn] at hmk
  generalize 2 ^ n - 1 = M at *
  have Z0 := Blk.new w 40 (cellsM 0)
  rw [zero_cells] at Z0
  have HMK := Lib.hid hmk
  have HZ := Lib.hid Z0
  clear hmk Z0
  simp only [valM, Ytcefadbnmpjeiaa.cellsM] at HMK
  go_enter Try.func55, Try.ntmps55
  go_wp2
  go_loopw [4, 5] (fun v i wr => ∃ k : Nat, k ≤ n ∧ i = .int .i64 k ∧ wr.ownsRow (w.heap.size + 1) 3 1 v k ((upTo k).map encI) ∧ Fr (fun _ => False) (w.alloc (.cells #[.int .u64 0, .int .u64 0, .int .u64 0, .int .u64 0] 40)) wr) (fun _ i _ => n - (intOf i).toNat)
  case atStart => exact ⟨0, Nat.zero_le _, rfl, World.ownsRow_nil _ _ _ _, Fr.refl _ _⟩
  case round =>
    obtain ⟨k, hk, rfl, hrow, hfr⟩ := hrel
    by_cases hlt : k < n
    · have hsz := hfr.size
      rw [World.size_alloc] at hsz
      have s1 : k + 1 ≤ maxLen := by unfold maxLen; omega
      have s2 : (k + 1) * 8 ≤ 140737488355328 := by omega
      have s3 : ∀ o, w.heap.size + 1 ≤ (wr.alloc o).heap.size := fun o => by rw [World.size_alloc]; omega
      have hst : (upTo (k + 1)).map encI = (upTo k).map encI ++ [.int .i64 (k : Int)] := by rw [upTo_succ, List.map_append]; rfl
      have hkr := hrow.lt
      have HST := Lib.hid hst
      clear hst
      go_wp2_with (at_builtin; refine wpList_append_own _ rfl _ _ 24 rfl (w.heap.size + 1) 3 i0 (.int .i64 0) 1 8 Try.underlying24 hi hz0 hz1 hz2 rfl (by decide) _ _ _ rfl (hrow.alloc _) ⟨wr.heap.size, 0, none⟩ 1 1 [.int .i64 (k : Int)] rfl rfl (news_one wr 3 [.int .i64 (k : Int)]) (by simp [Value.oneCell']) s1 s2 (s3 _) ?_; intro v' w1 hown1 hgrow1 hne1)
      go_roundw
      case rel => exact ⟨k + 1, by omega, by go_num, by rw [HST.out]; exact hown1, (hfr.alloc _).grown hgrow1 (fun q e => Or.inr (by have := (hkr q e).1; simpa using this))⟩
      case measure => simp [intOf]; omega
    · obtain rfl : k = n := by omega
      have hrow2 : wr.ownsRow (w.heap.size + 1) 3 1 u4 (upTo k).length ((upTo k).map encI) := by rw [upTo_len]; exact hrow
      have hiv := IntsV.of_row hrow2
      have HI := Lib.hid hiv
      have HF := Lib.hid hfr
      have hz := HZ.out.fr hfr (fun h => h)
      clear hiv hrow hrow2 hfr HZ
      go_wp2_with fail
      refine (HMK.out _ _ HI.out).mono ?_
      rintro e w2 ⟨rfl, hf2⟩
      have hz2 := hz.fr hf2 (fun h => h)
      have z0 := fun i => hz2.cell i
      obtain ⟨f0, f1, f2, f3⟩ := hz2.frozenM
      have HF2 := Lib.hid hf2
      clear hf2 hz hz2
      go_wp2_with fail
      (try simp only [Exit.inBlock, Exit.then])
      refine bodyPost_ret (v := .tuple #[valM M, .int .i64 0]) ?_ rfl ⟨rfl, ?_⟩
      · rw [results_cell_tmp rfl]
        unfold valM cellsM
        go_simp
      · exact (((((Fr.refl _ w).alloc _).then HF.out).then HF2.out).setM (Or.inr (Nat.le_refl _)) _ _ _ _)

set_option maxHeartbeats 1000000 in
theorem all22_any (l : LayD) (w : World) : Calls Try.prog 22 #[l.val] w fun e w' => e = .returned (valM l.all) ∧ Fr (fun _ => False) w w' := by
  have h1 := fun W => count51_any l W
  have hb := l.count_bound
  unfold LayD.all
  obtain ⟨n, hn⟩ : ∃ n : Nat, l.count = (n : Int) := ⟨l.count.toNat, by omega⟩
  rw [hn] at h1 hb ⊢
  rw [Int.toNat_natCast]
  have h2 := fun W => all55_in n (by omega) W
  have HZ := Lib.hid ((Blk.new (w.alloc (.cells #[.int .i64 l.s, .int .i64 l.p] 23)) 40 (cellsM 0)))
  generalize 2 ^ n - 1 = M at *
  obtain ⟨s, p⟩ := l
  simp only [LayD.val] at *
  simp only [zero_cells, World.size_alloc] at HZ
  have H1 := Lib.hid h1
  have H2 := Lib.hid h2
  simp only [valM, Ytcefadbnmpjeiaa.cellsM] at H2
  clear h1 h2 hn
  go_enter Try.func22, Try.ntmps22
  go_wp2_with fail
  refine (H1.out _).mono ?_
  rintro e w1 ⟨rfl, hf1⟩
  go_wp2_with fail
  refine (H2.out _).mono ?_
  rintro e w2 ⟨rfl, hf2⟩
  have hz := ((HZ.out.fr hf1 (fun h => h)).fr hf2 (fun h => h))
  have hzl := hz.lt
  have z0 := fun i => hz.cell i
  obtain ⟨f0, f1, f2, f3⟩ := hz.frozenM
  have hF : Fr (fun _ => False) w w2 := ((((Fr.refl _ w).alloc _).alloc _).then (hf1.then hf2))
  have HF := Lib.hid hF
  clear hF hz
  go_wp2_with fail
  (try simp only [Exit.inBlock, Exit.then])
  refine bodyPost_ret (v := valM M) ?_ rfl ⟨rfl, ?_⟩
  · rw [results_cell1 rfl]
    unfold valM cellsM
    go_simp
  · exact (HF.out.setM (Or.inr (Nat.le_succ _)) _ _ _ _).alloc _

end Go.Proofs.Ytcefadbnmpjeiaa
