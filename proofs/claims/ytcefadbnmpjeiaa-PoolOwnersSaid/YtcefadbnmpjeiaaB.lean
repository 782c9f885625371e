/-
  Layouts: the reference's Check, Count, Socket; 'own'; All of both.
-/
import Derived.Test.YtcefadbnmpjeiaaA
namespace Go.Proofs.Ytcefadbnmpjeiaa
open Go.RowKit Go.Maps

set_option maxHeartbeats 1000000 in
theorem own14_any (l : LayD) (w : World) : Calls Try.prog 14 #[l.val] w fun e w' => e = .returned l.val ∧ Fr (fun _ => False) w w' := by
  obtain ⟨s, p⟩ := l
  simp only [LayD.val]
  go_enter Try.func14, Try.ntmps14
  go_wp2
  (try simp only [Exit.inBlock, Exit.then])
  refine bodyPost_ret (v := .agg #[.int .i64 s, .int .i64 p]) ?_ rfl ⟨rfl, ((Fr.refl _ w).alloc _).alloc _⟩
  rw [results_cell1 rfl]
  go_simp

set_option maxHeartbeats 1000000 in
theorem check19_any (l : LayD) (w : World) : Calls Try.prog 19 #[l.val] w fun e w' => e = .returned (.int .i64 l.check) ∧ Fr (fun _ => False) w w' := by
  unfold LayD.check
  by_cases hs : 1 ≤ l.s ∧ l.s ≤ 8
  · by_cases hp : 1 ≤ l.p ∧ l.p ≤ 64
    · have hb := prod_bound hs hp
      have e1 : (if l.may then (0 : Int) else 1) = if l.s * l.p ≤ 256 then 0 else 1 := by
        unfold LayD.may
        simp [hs, hp]
      rw [e1]
      clear e1
      obtain ⟨s, p⟩ := l
      simp only [LayD.val] at *
      generalize hsp : s * p = sp at *
      by_cases hle : sp ≤ 256
      · rw [if_pos hle]
        go_enter Try.func19, Try.ntmps19
        go_wp2
        go_ret
        exact ⟨rfl, (Fr.refl _ w).alloc _⟩
      · rw [if_neg hle]
        go_enter Try.func19, Try.ntmps19
        go_wp2
        go_ret
        exact ⟨rfl, (Fr.refl _ w).alloc _⟩
    · rw [if_neg (fun h => hp h.2.1)]
      obtain ⟨s, p⟩ := l
      simp only [LayD.val] at *
      by_cases hp1 : p < 1
      · go_enter Try.func19, Try.ntmps19
        go_wp2
        go_ret
        exact ⟨rfl, (Fr.refl _ w).alloc _⟩
      · have hp2 : 64 < p := by omega
        clear hp
        go_enter Try.func19, Try.ntmps19
        go_wp2
        go_ret
        exact ⟨rfl, (Fr.refl _ w).alloc _⟩
  · rw [if_neg (fun h => hs h.1)]
    obtain ⟨s, p⟩ := l
    simp only [LayD.val] at *
    by_cases hs1 : s < 1
    · go_enter Try.func19, Try.ntmps19
      go_wp2
      go_ret
      exact ⟨rfl, (Fr.refl _ w).alloc _⟩
    · have hs2 : 8 < s := by omega
      clear hs
      go_enter Try.func19, Try.ntmps19
      go_wp2
      go_ret
      exact ⟨rfl, (Fr.refl _ w).alloc _⟩

set_option maxHeartbeats 1000000 in
theorem count51_any (l : LayD) (w : World) : Calls Try.prog 51 #[l.val] w fun e w' => e = .returned (.int .i64 l.count) ∧ Fr (fun _ => False) w w' := by
  have h1 := fun W => check19_any l W
  have HB := Lib.hid (Blk.new w 23 #[.int .i64 l.s, .int .i64 l.p])
  unfold LayD.count
  unfold LayD.check at h1
  by_cases hm : l.may
  · rw [if_pos hm] at h1
    rw [if_pos hm]
    have hb := prod_bound hm.1 hm.2.1
    clear hm
    obtain ⟨s, p⟩ := l
    simp only [LayD.val] at *
    have H1 := Lib.hid h1
    clear h1
    go_enter Try.func51, Try.ntmps51
    go_wp2_with fail
    refine (H1.out _).mono ?_
    rintro e w1 ⟨rfl, hf⟩
    have e1 := fun i => (HB.out.fr hf (fun h => h)).cell i
    generalize hsp : s * p = sp at *
    go_wp2_with fail
    go_ret
    exact ⟨by rw [hsp]; rfl, ((Fr.refl _ w).alloc _).then hf⟩
  · rw [if_neg hm] at h1
    rw [if_neg hm]
    clear hm
    obtain ⟨s, p⟩ := l
    simp only [LayD.val] at *
    have H1 := Lib.hid h1
    clear h1
    go_enter Try.func51, Try.ntmps51
    go_wp2_with fail
    refine (H1.out _).mono ?_
    rintro e w1 ⟨rfl, hf⟩
    go_wp2_with fail
    go_ret
    exact ⟨rfl, ((Fr.refl _ w).alloc _).then hf⟩

set_option maxHeartbeats 1000000 in
theorem socket21_any (l : LayD) (c : Int) (w : World) : Calls Try.prog 21 #[l.val, .int .i64 c] w fun e w' => e = .returned (.int .i64 (l.socket c)) ∧ Fr (fun _ => False) w w' := by
  have h1 := fun W => count51_any l W
  have hcb := l.count_bound
  have HB := Lib.hid (Blk.new w 23 #[.int .i64 l.s, .int .i64 l.p])
  have hp : 0 < l.count → 1 ≤ l.p := fun h => by
    unfold LayD.count at h
    split at h
    · rename_i hm; exact hm.2.1.1
    · omega
  unfold LayD.socket
  generalize l.count = n at *
  obtain ⟨s, p⟩ := l
  simp only [LayD.val] at *
  by_cases h0 : 0 ≤ c
  · by_cases hin : c < n
    · rw [if_pos ⟨h0, hin⟩]
      have hp1 := hp (by omega)
      have b1 : decide (n ≤ c) = false := decide_eq_false (by omega)
      have H1 := Lib.hid h1
      clear h1 hp
      go_enter Try.func21, Try.ntmps21
      go_wp2_with fail
      refine (H1.out _).mono ?_
      rintro e w1 ⟨rfl, hf⟩
      have e1 := fun i => (HB.out.fr hf (fun h => h)).cell i
      go_wp2_with fail
      go_ret
      exact ⟨rfl, ((Fr.refl _ w).alloc _).then hf⟩
    · rw [if_neg (fun h => hin h.2)]
      have b1 : decide (n ≤ c) = true := decide_eq_true (by omega)
      have H1 := Lib.hid h1
      clear h1 hp
      go_enter Try.func21, Try.ntmps21
      go_wp2_with fail
      refine (H1.out _).mono ?_
      rintro e w1 ⟨rfl, hf⟩
      go_wp2_with fail
      go_ret
      exact ⟨rfl, ((Fr.refl _ w).alloc _).then hf⟩
  · rw [if_neg (fun h => h0 h.1)]
    have h00 : c < 0 := by omega
    clear h1 hp h0
    go_enter Try.func21, Try.ntmps21
    go_wp2_with fail
    go_ret
    exact ⟨rfl, (Fr.refl _ w).alloc _⟩

end Go.Proofs.Ytcefadbnmpjeiaa
