/-
  Layouts: may, count, Check, Socket of both.
-/
import Derived.Test.YtcefadbnmpjeiaaRef3M
namespace Go.Proofs.Ytcefadbnmpjeiaa
open Go.RowKit Go.Maps

structure LayD where
  s : Int
  p : Int
def LayD.val (l : LayD) : Value := .agg #[.int .i64 l.s, .int .i64 l.p]
structure LayD.wf (l : LayD) : Prop where
  s : wf64 l.s
  p : wf64 l.p

def LayD.may (l : LayD) : Prop := (1 ≤ l.s ∧ l.s ≤ 8) ∧ (1 ≤ l.p ∧ l.p ≤ 64) ∧ l.s * l.p ≤ 256
instance (l : LayD) : Decidable l.may := by unfold LayD.may; exact inferInstance
def LayD.count (l : LayD) : Int := if l.may then l.s * l.p else 0
def LayD.check (l : LayD) : Int := if l.may then 0 else 1
def LayD.socket (l : LayD) (c : Int) : Int := if 0 ≤ c ∧ c < l.count then c / l.p else -1

theorem prod_bound {s p : Int} (hs : 1 ≤ s ∧ s ≤ 8) (hp : 1 ≤ p ∧ p ≤ 64) : 1 ≤ s * p ∧ s * p ≤ 512 := by
  have h1 : s * 1 ≤ s * p := Int.mul_le_mul_of_nonneg_left (by omega) (by omega)
  have h2 : s * p ≤ 8 * p := Int.mul_le_mul_of_nonneg_right (by omega) (by omega)
  omega

theorem LayD.count_bound (l : LayD) : 0 ≤ l.count ∧ l.count ≤ 256 := by
  unfold LayD.count
  split
  · rename_i h
    have := prod_bound h.1 h.2.1
    have := h.2.2
    omega
  · omega

set_option maxHeartbeats 400000 in
theorem in54_any (n a b : Int) (w : World) : Calls Try.prog 54 #[.int .i64 n, .int .i64 a, .int .i64 b] w fun e w' => e = .returned (.bool (decide (a ≤ n ∧ n ≤ b))) ∧ w = w' := by
  go_enter Try.func54, Try.ntmps54
  go_wp2
  all_goals go_ret
  all_goals exact ⟨by congr 2; simp; omega, rfl⟩

set_option maxHeartbeats 1000000 in
theorem may50_any (l : LayD) (w : World) : Calls Try.prog 50 #[l.val] w fun e w' => e = .returned (.bool (decide l.may)) ∧ Fr (fun _ => False) w w' := by
  have h1 := fun W => in54_any l.s 1 8 W
  have h2 := fun W => in54_any l.p 1 64 W
  obtain ⟨s, p⟩ := l
  simp only [LayD.val, LayD.may] at *
  by_cases hs : 1 ≤ s ∧ s ≤ 8
  · rw [decide_eq_true hs] at h1
    by_cases hp : 1 ≤ p ∧ p ≤ 64
    · rw [decide_eq_true hp] at h2
      have hb := prod_bound hs hp
      have e1 : decide ((1 ≤ s ∧ s ≤ 8) ∧ (1 ≤ p ∧ p ≤ 64) ∧ s * p ≤ 256) = decide (s * p ≤ 256) := by congr 1; simp [hs, hp]
      rw [e1]
      have H1 := Lib.hid h1
      have H2 := Lib.hid h2
      clear h1 h2 e1
      generalize hsp : s * p = sp at *
      go_enter Try.func50, Try.ntmps50
      go_wp2_with fail
      refine (H1.out _).mono ?_
      rintro e w1 ⟨rfl, rfl⟩
      go_wp2_with fail
      refine (H2.out _).mono ?_
      rintro e w1 ⟨rfl, rfl⟩
      go_wp2_with fail
      go_ret
      exact ⟨rfl, (Fr.refl _ w).alloc _⟩
    · rw [decide_eq_false hp] at h2
      have e1 : decide ((1 ≤ s ∧ s ≤ 8) ∧ (1 ≤ p ∧ p ≤ 64) ∧ s * p ≤ 256) = false := decide_eq_false (fun h => hp h.2.1)
      rw [e1]
      have H1 := Lib.hid h1
      have H2 := Lib.hid h2
      clear h1 h2 e1 hs hp
      go_enter Try.func50, Try.ntmps50
      go_wp2_with fail
      refine (H1.out _).mono ?_
      rintro e w1 ⟨rfl, rfl⟩
      go_wp2_with fail
      refine (H2.out _).mono ?_
      rintro e w1 ⟨rfl, rfl⟩
      go_wp2_with fail
      go_ret
      exact ⟨rfl, (Fr.refl _ w).alloc _⟩
  · rw [decide_eq_false hs] at h1
    have e1 : decide ((1 ≤ s ∧ s ≤ 8) ∧ (1 ≤ p ∧ p ≤ 64) ∧ s * p ≤ 256) = false := decide_eq_false (fun h => hs h.1)
    rw [e1]
    have H1 := Lib.hid h1
    clear h1 h2 e1 hs
    go_enter Try.func50, Try.ntmps50
    go_wp2_with fail
    refine (H1.out _).mono ?_
    rintro e w1 ⟨rfl, rfl⟩
    go_wp2_with fail
    go_ret
    exact ⟨rfl, (Fr.refl _ w).alloc _⟩

set_option maxHeartbeats 1000000 in
theorem count53_any (l : LayD) (w : World) : Calls Try.prog 53 #[l.val] w fun e w' => e = .returned (.int .i64 l.count) ∧ Fr (fun _ => False) w w' := by
  have h1 := fun W => may50_any l W
  have HB := Lib.hid (Blk.new w 28 #[.int .i64 l.s, .int .i64 l.p])
  unfold LayD.count
  by_cases hm : l.may
  · rw [decide_eq_true hm] at h1
    rw [if_pos hm]
    have hb := prod_bound hm.1 hm.2.1
    clear hm
    obtain ⟨s, p⟩ := l
    simp only [LayD.val] at *
    have H1 := Lib.hid h1
    clear h1
    go_enter Try.func53, Try.ntmps53
    go_wp2_with fail
    refine (H1.out _).mono ?_
    rintro e w1 ⟨rfl, hf⟩
    have e1 := fun i => (HB.out.fr hf (fun h => h)).cell i
    generalize hsp : s * p = sp at *
    go_wp2_with fail
    go_ret
    exact ⟨by rw [hsp]; rfl, ((Fr.refl _ w).alloc _).then hf⟩
  · rw [decide_eq_false hm] at h1
    rw [if_neg hm]
    clear hm
    obtain ⟨s, p⟩ := l
    simp only [LayD.val] at *
    have H1 := Lib.hid h1
    clear h1
    go_enter Try.func53, Try.ntmps53
    go_wp2_with fail
    refine (H1.out _).mono ?_
    rintro e w1 ⟨rfl, hf⟩
    go_wp2_with fail
    go_ret
    exact ⟨rfl, ((Fr.refl _ w).alloc _).then hf⟩

set_option maxHeartbeats 1000000 in
theorem check18_any (l : LayD) (w : World) : Calls Try.prog 18 #[l.val] w fun e w' => e = .returned (.int .i64 l.check) ∧ Fr (fun _ => False) w w' := by
  have h1 := fun W => may50_any l W
  unfold LayD.check
  by_cases hm : l.may
  · rw [decide_eq_true hm] at h1
    rw [if_pos hm]
    clear hm
    obtain ⟨s, p⟩ := l
    simp only [LayD.val] at *
    have H1 := Lib.hid h1
    clear h1
    go_enter Try.func18, Try.ntmps18
    go_wp2_with fail
    refine (H1.out _).mono ?_
    rintro e w1 ⟨rfl, hf⟩
    go_wp2_with fail
    go_ret
    exact ⟨rfl, ((Fr.refl _ w).alloc _).then hf⟩
  · rw [decide_eq_false hm] at h1
    rw [if_neg hm]
    clear hm
    obtain ⟨s, p⟩ := l
    simp only [LayD.val] at *
    have H1 := Lib.hid h1
    clear h1
    go_enter Try.func18, Try.ntmps18
    go_wp2_with fail
    refine (H1.out _).mono ?_
    rintro e w1 ⟨rfl, hf⟩
    go_wp2_with fail
    go_ret
    exact ⟨rfl, ((Fr.refl _ w).alloc _).then hf⟩

set_option maxHeartbeats 1000000 in
theorem socket20_any (l : LayD) (c : Int) (w : World) : Calls Try.prog 20 #[l.val, .int .i64 c] w fun e w' => e = .returned (.int .i64 (l.socket c)) ∧ Fr (fun _ => False) w w' := by
  have h1 := fun W => count53_any l W
  have hcb := l.count_bound
  have h2 := fun W => in54_any c 0 (l.count - 1) W
  have HB := Lib.hid (Blk.new w 28 #[.int .i64 l.s, .int .i64 l.p])
  have hp : 0 < l.count → 1 ≤ l.p := fun h => by
    unfold LayD.count at h
    split at h
    · rename_i hm; exact hm.2.1.1
    · omega
  unfold LayD.socket
  generalize l.count = n at *
  obtain ⟨s, p⟩ := l
  simp only [LayD.val] at *
  by_cases hin : 0 ≤ c ∧ c < n
  · rw [decide_eq_true (show 0 ≤ c ∧ c ≤ n - 1 by omega)] at h2
    rw [if_pos hin]
    have hp1 := hp (by omega)
    have H1 := Lib.hid h1
    have H2 := Lib.hid h2
    clear h1 h2 hp
    go_enter Try.func20, Try.ntmps20
    go_wp2_with fail
    refine (H1.out _).mono ?_
    rintro e w1 ⟨rfl, hf⟩
    have e1 := fun i => (HB.out.fr hf (fun h => h)).cell i
    go_wp2_with fail
    refine (H2.out _).mono ?_
    rintro e w2 ⟨rfl, rfl⟩
    go_wp2_with fail
    go_ret
    exact ⟨rfl, ((Fr.refl _ w).alloc _).then hf⟩
  · rw [decide_eq_false (show ¬ (0 ≤ c ∧ c ≤ n - 1) by omega)] at h2
    rw [if_neg hin]
    have H1 := Lib.hid h1
    have H2 := Lib.hid h2
    clear h1 h2 hp hin
    go_enter Try.func20, Try.ntmps20
    go_wp2_with fail
    refine (H1.out _).mono ?_
    rintro e w1 ⟨rfl, hf⟩
    go_wp2_with fail
    refine (H2.out _).mono ?_
    rintro e w2 ⟨rfl, rfl⟩
    go_wp2_with fail
    go_ret
    exact ⟨rfl, ((Fr.refl _ w).alloc _).then hf⟩

end Go.Proofs.Ytcefadbnmpjeiaa
