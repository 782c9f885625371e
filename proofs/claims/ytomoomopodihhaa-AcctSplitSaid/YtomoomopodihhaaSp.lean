/-
  A use that is split, walked.
-/
import Derived.Test.YtomoomopodihhaaArgs
namespace Go.Proofs.Ytomoomopodihhaa
open Go.RowKit Go.Maps Go.Sort Go.Shelf

/-- Sums and products that saturate, of parts that are not negative. -/
theorem sat_split {p q : Int} (hp : 0 ≤ p) (hq : 0 ≤ q) : addS (min p 9223372036854775807) (min q 9223372036854775807) = min (p + q) 9223372036854775807 := by unfold addS; omega
theorem timesS_min {a b : Int} (ha : 0 ≤ a) (hb : 0 ≤ b) : timesS a b = min (a * b) 9223372036854775807 := by
  unfold timesS
  rw [show max a 0 = a by omega, show max b 0 = b by omega]
theorem times_cut_r {c x y : Int} (hc : 0 ≤ c) (hx : 0 ≤ x) (hy : 0 ≤ y) : addS (timesS c x) (timesS c y) = timesS c (x + y) := by
  rw [timesS_min hc hx, timesS_min hc hy, timesS_min hc (by omega), sat_split (Int.mul_nonneg hc hx) (Int.mul_nonneg hc hy), Int.mul_add]
theorem times_cut_l {c x y : Int} (hc : 0 ≤ c) (hx : 0 ≤ x) (hy : 0 ≤ y) : addS (timesS x c) (timesS y c) = timesS (x + y) c := by
  rw [timesS_min hx hc, timesS_min hy hc, timesS_min (by omega) hc, sat_split (Int.mul_nonneg hx hc) (Int.mul_nonneg hy hc), Int.add_mul]

set_option maxHeartbeats 1000000 in
/-- .. one that is none, or is split where it is not. -/
theorem split6_no (u : UseD) (hu : u.wf) (at' k : Int) (hb : u.bad ∨ at' < u.frm ∨ u.til < at' ∨ k < 0 ∨ u.cores < k) (w : World) :
    Calls Try.prog 6 #[u.val, .int .i64 at', .int .i64 k] w fun e w' => e = .returned (.bool true) ∧ Fr (fun _ => False) w w' := by
  have h15 := fun W => own15_any u W
  have h14 := fun W => of14_any u hu W
  have HB := Lib.hid (Blk.new w 23 u.cells)
  by_cases hbad : u.bad
  · rw [ofS_bad hbad] at h14
    obtain ⟨job, cores, frm, til⟩ := u
    simp only [UseD.val, UseD.cells] at *
    have H15 := Lib.hid h15
    have H14 := Lib.hid h14
    clear h15 h14 hu hb hbad
    go_enter Try.func6, Try.ntmps6
    go_wp2_with fail
    refine (H15.out _).mono ?_
    rintro e w1 ⟨rfl, hf1⟩
    go_wp2_with fail
    refine (H14.out _).mono ?_
    rintro e w2 ⟨rfl, hf2⟩
    go_wp2_with fail
    refine (live_any _).mono ?_
    rintro e w3 ⟨rfl, hf3⟩
    go_wp2_with fail
    go_ret
    exact ⟨rfl, (((Fr.refl _ w).alloc _).then hf1).then (hf2.then hf3)⟩
  · rw [ofS_ok hbad] at h14
    have hb : at' < u.frm ∨ u.til < at' ∨ k < 0 ∨ u.cores < k := hb.resolve_left hbad
    obtain ⟨job, cores, frm, til⟩ := u
    simp only [UseD.val, UseD.cells] at *
    generalize timesS cores (til - frm) = n at *
    have H15 := Lib.hid h15
    have H14 := Lib.hid h14
    clear h15 h14 hu hbad
    go_enter Try.func6, Try.ntmps6
    go_wp2_with fail
    refine (H15.out _).mono ?_
    rintro e w1 ⟨rfl, hf1⟩
    go_wp2_with fail
    refine (H14.out _).mono ?_
    rintro e w2 ⟨rfl, hf2⟩
    have e2 := fun i => ((HB.out.fr hf1 (fun h => h)).fr hf2 (fun h => h)).cell i
    go_wp2_with (refine (live_any _).mono ?_; rintro e w3 ⟨rfl, hf3⟩)
    all_goals first
      | (exfalso; omega)
      | (go_ret; exact ⟨rfl, (((Fr.refl _ w).alloc _).then hf1).then (hf2.then hf3)⟩)

end Go.Proofs.Ytomoomopodihhaa
