/-
  A use that is split where it is, walked.
-/
import Derived.Test.YtomoomopodihhaaSp
namespace Go.Proofs.Ytomoomopodihhaa
open Go.RowKit Go.Maps Go.Sort Go.Shelf

set_option maxHeartbeats 2000000 in
theorem split6_yes (u : UseD) (hu : u.wf) (at' k : Int) (hb : ¬ u.bad) (h1 : u.frm ≤ at') (h2 : at' ≤ u.til) (h3 : 0 ≤ k) (h4 : k ≤ u.cores) (w : World) :
    Calls Try.prog 6 #[u.val, .int .i64 at', .int .i64 k] w fun e w' => e = .returned (.bool true) ∧ Fr (fun _ => False) w w' := by
  have h15 := fun W => own15_any u W
  have h14 := fun W => of14_any u hu W
  obtain ⟨job, cores, frm, til⟩ := u
  obtain ⟨wj, wc, wf, wt⟩ := hu
  simp only at *
  have gj : 0 ≤ job ∧ job ≤ 1099511627776 ∧ 0 ≤ cores ∧ 0 ≤ frm ∧ frm ≤ til := by simp only [UseD.bad] at hb; omega
  have wa : wf64 at' := by unfold wf64 at *; omega
  have wk : wf64 k := by unfold wf64 at *; omega
  have wd : wf64 (cores - k) := by unfold wf64 at *; omega
  have ba := of14_any ⟨job, cores, frm, at'⟩ ⟨wj, wc, wf, wa⟩
  have bb := of14_any ⟨job, cores, at', til⟩ ⟨wj, wc, wa, wt⟩
  have bc := of14_any ⟨job, k, frm, til⟩ ⟨wj, wk, wf, wt⟩
  have bd := of14_any ⟨job, cores - k, frm, til⟩ ⟨wj, wd, wf, wt⟩
  rw [ofS_ok hb] at h14
  rw [ofS_ok (by simp only [UseD.bad]; omega)] at ba bb bc bd
  simp only at h14 ba bb bc bd
  have t1 : addS (timesS cores (at' - frm)) (timesS cores (til - at')) = timesS cores (til - frm) := by
    rw [times_cut_r (by omega) (by omega) (by omega)]
    congr 1
    omega
  have t2 : addS (timesS k (til - frm)) (timesS (cores - k) (til - frm)) = timesS cores (til - frm) := by
    rw [times_cut_l (by omega) (by omega) (by omega)]
    congr 1
    omega
  have s1 := fun W => add17_any _ _ (timesS_wf cores (at' - frm)).1 (timesS_wf cores (til - at')).1 W
  have s2 := fun W => add17_any _ _ (timesS_wf k (til - frm)).1 (timesS_wf (cores - k) (til - frm)).1 W
  rw [t1] at s1
  rw [t2] at s2
  clear t1 t2 hb
  generalize timesS cores (til - frm) = n at *
  generalize timesS cores (at' - frm) = na at *
  generalize timesS cores (til - at') = nb at *
  generalize timesS k (til - frm) = nc at *
  generalize timesS (cores - k) (til - frm) = nd at *
  have v1 : -9223372036854775808 ≤ cores - k := wd.1
  have v2 : cores - k ≤ 9223372036854775807 := wd.2
  simp only [UseD.val, UseD.cells] at *
  have H15 := Lib.hid h15
  have H14 := Lib.hid h14
  have HA := Lib.hid ba
  have HBB := Lib.hid bb
  have HC := Lib.hid bc
  have HD := Lib.hid bd
  have S1 := Lib.hid s1
  have S2 := Lib.hid s2
  clear h15 h14 ba bb bc bd s1 s2 wj wc wf wt wa wk wd
  obtain ⟨g1, g2, g3, g4, g5⟩ := gj
  have HB := Lib.hid (Blk.new w 23 #[.int .i64 job, .int .i64 cores, .int .i64 frm, .int .i64 til])
  go_enter Try.func6, Try.ntmps6
  go_wp2_with fail
  refine (H15.out _).mono ?_
  rintro e w1 ⟨rfl, hf1⟩
  go_wp2_with fail
  refine (H14.out _).mono ?_
  rintro e w2 ⟨rfl, hf2⟩
  have F2 := ((((Fr.refl (fun _ => False) w).alloc (.cells #[.int .i64 job, .int .i64 cores, .int .i64 frm, .int .i64 til] 23)).then hf1).then hf2)
  have B2 := (HB.out.fr hf1 (fun h => h)).fr hf2 (fun h => h)
  have z2 := B2.lt
  have e2 := fun i => B2.cell i
  go_wp2_with fail
  refine (H15.out _).mono ?_
  rintro e w3 ⟨rfl, hf3⟩
  clear e2
  have B3 := (B2.fr hf3 (fun h => h)).alloc (.cells #[.int .i64 job, .int .i64 cores, .int .i64 frm, .int .i64 til] 27)
  have A3 := Blk.new w3 27 #[.int .i64 job, .int .i64 cores, .int .i64 frm, .int .i64 til]
  have F3 := (F2.then hf3).alloc (.cells #[.int .i64 job, .int .i64 cores, .int .i64 frm, .int .i64 til] 27)
  have q3 : w.heap.size < w3.heap.size := (B2.fr hf3 (fun h => h)).lt
  generalize hA : w3.heap.size = A at *
  have e3 := fun i => B3.cell i
  go_wp2_with fail
  refine (H15.out _).mono ?_
  rintro e w4 ⟨rfl, hf4⟩
  clear e3
  have q4 : A < w4.heap.size := (A3.fr hf4 (fun h => h)).lt
  have a4 := fun i => (A3.fr hf4 (fun h => h)).cell i
  have a4' := fun i => (A3.fr hf4 (fun h => h)).frozen i
  have A5 := ((A3.fr hf4 (fun h => h)).set_ 3 (.int .i64 at')).alloc (.cells #[.int .i64 job, .int .i64 cores, .int .i64 at', .int .i64 til] 27)
  have B5 := ((B3.fr hf4 (fun h => h)).far (p := ⟨A, 3, none⟩) (by simp; omega) (.int .i64 at')).alloc (.cells #[.int .i64 job, .int .i64 cores, .int .i64 at', .int .i64 til] 27)
  have C5 := Blk.new (w4.setCell ⟨A, 3, none⟩ (.int .i64 at')) 27 #[.int .i64 job, .int .i64 cores, .int .i64 at', .int .i64 til]
  have F5 := ((F3.then hf4).setCell (p := ⟨A, 3, none⟩) (Or.inr (by simp; omega)) (.int .i64 at')).alloc (.cells #[.int .i64 job, .int .i64 cores, .int .i64 at', .int .i64 til] 27)
  rw [World.size_setCell] at C5
  generalize hC : w4.heap.size = C at *
  have b5 := fun i => B5.cell i
  go_wp2_with fail
  refine (H15.out _).mono ?_
  rintro e w5 ⟨rfl, hf5⟩
  clear a4 a4' b5
  have B6 := (B5.fr hf5 (fun h => h)).alloc (.cells #[.int .i64 job, .int .i64 cores, .int .i64 frm, .int .i64 til] 27)
  have A6 := (A5.fr hf5 (fun h => h)).alloc (.cells #[.int .i64 job, .int .i64 cores, .int .i64 frm, .int .i64 til] 27)
  have C6 := (C5.fr hf5 (fun h => h)).alloc (.cells #[.int .i64 job, .int .i64 cores, .int .i64 frm, .int .i64 til] 27)
  have D6 := Blk.new w5 27 #[.int .i64 job, .int .i64 cores, .int .i64 frm, .int .i64 til]
  have F6 := (F5.then hf5).alloc (.cells #[.int .i64 job, .int .i64 cores, .int .i64 frm, .int .i64 til] 27)
  have q5 : C < w5.heap.size := (C5.fr hf5 (fun h => h)).lt
  generalize hD : w5.heap.size = D at *
  have e6 := fun i => B6.cell i
  go_wp2_with fail
  refine (H15.out _).mono ?_
  rintro e w6 ⟨rfl, hf6⟩
  clear e6
  have q6 : D < w6.heap.size := (D6.fr hf6 (fun h => h)).lt
  have d6 := fun i => (D6.fr hf6 (fun h => h)).cell i
  have d6' := fun i => (D6.fr hf6 (fun h => h)).frozen i
  have D7 := (D6.fr hf6 (fun h => h)).set_ 1 (.int .i64 k)
  have D8 := D7.alloc (.cells #[.int .i64 job, .int .i64 (cores - k), .int .i64 frm, .int .i64 til] 27)
  have B7 := (B6.fr hf6 (fun h => h)).far (p := ⟨D, 1, none⟩) (by simp; omega) (.int .i64 k)
  have b7 := fun i => (B7.alloc (.cells #[.int .i64 job, .int .i64 cores, .int .i64 frm, .int .i64 til] 27)).cell i
  have A8 := ((A6.fr hf6 (fun h => h)).far (p := ⟨D, 1, none⟩) (by simp; omega) (.int .i64 k)).alloc (.cells #[.int .i64 job, .int .i64 (cores - k), .int .i64 frm, .int .i64 til] 27)
  have C8 := ((C6.fr hf6 (fun h => h)).far (p := ⟨D, 1, none⟩) (by simp; omega) (.int .i64 k)).alloc (.cells #[.int .i64 job, .int .i64 (cores - k), .int .i64 frm, .int .i64 til] 27)
  have E8 := Blk.new (w6.setCell ⟨D, 1, none⟩ (.int .i64 k)) 27 #[.int .i64 job, .int .i64 (cores - k), .int .i64 frm, .int .i64 til]
  rw [World.size_setCell] at E8
  have F8 := ((F6.then hf6).setCell (p := ⟨D, 1, none⟩) (Or.inr (by simp; omega)) (.int .i64 k)).alloc (.cells #[.int .i64 job, .int .i64 (cores - k), .int .i64 frm, .int .i64 til] 27)
  generalize hE : w6.heap.size = E at *
  have a8 := fun i => A8.cell i
  go_wp2_with fail
  refine (HA.out _).mono ?_
  rintro e w7 ⟨rfl, hf7⟩
  clear a8 b7 d6 d6'
  have c9 := fun i => (C8.fr hf7 (fun h => h)).cell i
  go_wp2_with fail
  refine (HBB.out _).mono ?_
  rintro e w8 ⟨rfl, hf8⟩
  clear c9
  have d9 := fun i => ((D8.fr hf7 (fun h => h)).fr hf8 (fun h => h)).cell i
  go_wp2_with fail
  refine (HC.out _).mono ?_
  rintro e w9 ⟨rfl, hf9⟩
  clear d9
  have e9 := fun i => (((E8.fr hf7 (fun h => h)).fr hf8 (fun h => h)).fr hf9 (fun h => h)).cell i
  go_wp2_with fail
  refine (HD.out _).mono ?_
  rintro e w10 ⟨rfl, hf10⟩
  clear e9
  go_wp2_with fail
  refine (S1.out _).mono ?_
  rintro e w11 ⟨rfl, rfl⟩
  go_wp2_with fail
  refine (S2.out _).mono ?_
  rintro e w11 ⟨rfl, rfl⟩
  go_wp2_with fail
  refine (live_any _).mono ?_
  rintro e w11 ⟨rfl, hf11⟩
  go_wp2_with fail
  go_ret
  exact ⟨rfl, ((((F8.then hf7).then hf8).then hf9).then hf10).then hf11⟩

end Go.Proofs.Ytomoomopodihhaa
