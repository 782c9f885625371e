/-
  The reference's Assign, where it refuses; and whatever is asked (made by gen_as.py).
-/
import Derived.Test.YtcefadbnmpjeiaaAr
namespace Go.Proofs.Ytcefadbnmpjeiaa
open Go.RowKit Go.Maps Go.Shelf

set_option maxRecDepth 20000 in
set_option maxHeartbeats 1000000 in
theorem bad26_0 (s p : Int) (F : Nat) (R P d : Int)  (w : World)
    (H15 : Hid (∀ W, Calls Try.prog 15 #[.agg #[.int .i64 s, .int .i64 p], .int .i64 d] W fun e w' => ∃ v, e = .returned (.tuple #[v, .int .i64 1]) ∧ Fr (fun _ => False) W w')) :
    Calls Try.prog 26 #[.agg #[.int .i64 s, .int .i64 p], .agg #[.int .u64 (wordM F 0 : Nat), .int .u64 (wordM F 1 : Nat), .int .u64 (wordM F 2 : Nat), .int .u64 (wordM F 3 : Nat), .int .i64 R, .int .i64 P, .int .i64 d]] w fun e w' => e = .returned (.tuple #[.slice none 0 0, .int .i64 1]) ∧ Fr (fun _ => False) w w' := by
  have hW := Blk.new (w.alloc (.cells #[.int .i64 s, .int .i64 p] 23)) 45 #[.int .u64 (wordM F 0 : Nat), .int .u64 (wordM F 1 : Nat), .int .u64 (wordM F 2 : Nat), .int .u64 (wordM F 3 : Nat), .int .i64 R, .int .i64 P, .int .i64 d]
  rw [World.size_alloc] at hW
  have HW := Lib.hid hW
  clear hW
  have HF := Lib.hid (((Fr.refl (fun _ => False) w).alloc (.cells #[.int .i64 s, .int .i64 p] 23)).alloc (.cells #[.int .u64 (wordM F 0 : Nat), .int .u64 (wordM F 1 : Nat), .int .u64 (wordM F 2 : Nat), .int .u64 (wordM F 3 : Nat), .int .i64 R, .int .i64 P, .int .i64 d] 45))
  go_enter Try.func26, Try.ntmps26
  go_wp2_with fail
  refine (H15.out _).mono ?_
  rintro e w1 ⟨v1, rfl, hf1⟩
  have hW1 := HW.out.fr hf1 (fun h => h)
  have HF1 := Lib.hid (HF.out.then hf1)
  clear hf1 HF HW
  have e1 := fun i => hW1.cell i
  go_wp2_with fail
  go_ret2
  exact ⟨rfl, HF1.out⟩

set_option maxRecDepth 20000 in
set_option maxHeartbeats 1000000 in
theorem bad26_1 (s p : Int) (F : Nat) (R P d : Int) (h0 : R < 1) (w : World)
    (H15 : Hid (∀ W, Calls Try.prog 15 #[.agg #[.int .i64 s, .int .i64 p], .int .i64 d] W fun e w' => ∃ v, e = .returned (.tuple #[v, .int .i64 0]) ∧ Fr (fun _ => False) W w')) :
    Calls Try.prog 26 #[.agg #[.int .i64 s, .int .i64 p], .agg #[.int .u64 (wordM F 0 : Nat), .int .u64 (wordM F 1 : Nat), .int .u64 (wordM F 2 : Nat), .int .u64 (wordM F 3 : Nat), .int .i64 R, .int .i64 P, .int .i64 d]] w fun e w' => e = .returned (.tuple #[.slice none 0 0, .int .i64 1]) ∧ Fr (fun _ => False) w w' := by
  have hW := Blk.new (w.alloc (.cells #[.int .i64 s, .int .i64 p] 23)) 45 #[.int .u64 (wordM F 0 : Nat), .int .u64 (wordM F 1 : Nat), .int .u64 (wordM F 2 : Nat), .int .u64 (wordM F 3 : Nat), .int .i64 R, .int .i64 P, .int .i64 d]
  rw [World.size_alloc] at hW
  have HW := Lib.hid hW
  clear hW
  have HF := Lib.hid (((Fr.refl (fun _ => False) w).alloc (.cells #[.int .i64 s, .int .i64 p] 23)).alloc (.cells #[.int .u64 (wordM F 0 : Nat), .int .u64 (wordM F 1 : Nat), .int .u64 (wordM F 2 : Nat), .int .u64 (wordM F 3 : Nat), .int .i64 R, .int .i64 P, .int .i64 d] 45))
  have b0 : decide (R < 1) = true := decide_eq_true (by omega)
  go_enter Try.func26, Try.ntmps26
  go_wp2_with fail
  refine (H15.out _).mono ?_
  rintro e w1 ⟨v1, rfl, hf1⟩
  have hW1 := HW.out.fr hf1 (fun h => h)
  have HF1 := Lib.hid (HF.out.then hf1)
  clear hf1 HF HW
  have e1 := fun i => hW1.cell i
  go_wp2_with fail
  go_ret2
  exact ⟨rfl, HF1.out⟩

set_option maxRecDepth 20000 in
set_option maxHeartbeats 1000000 in
theorem bad26_2 (s p : Int) (F : Nat) (R P d : Int) (h0 : ¬ R < 1) (h1 : 32 < R) (w : World)
    (H15 : Hid (∀ W, Calls Try.prog 15 #[.agg #[.int .i64 s, .int .i64 p], .int .i64 d] W fun e w' => ∃ v, e = .returned (.tuple #[v, .int .i64 0]) ∧ Fr (fun _ => False) W w')) :
    Calls Try.prog 26 #[.agg #[.int .i64 s, .int .i64 p], .agg #[.int .u64 (wordM F 0 : Nat), .int .u64 (wordM F 1 : Nat), .int .u64 (wordM F 2 : Nat), .int .u64 (wordM F 3 : Nat), .int .i64 R, .int .i64 P, .int .i64 d]] w fun e w' => e = .returned (.tuple #[.slice none 0 0, .int .i64 1]) ∧ Fr (fun _ => False) w w' := by
  have hW := Blk.new (w.alloc (.cells #[.int .i64 s, .int .i64 p] 23)) 45 #[.int .u64 (wordM F 0 : Nat), .int .u64 (wordM F 1 : Nat), .int .u64 (wordM F 2 : Nat), .int .u64 (wordM F 3 : Nat), .int .i64 R, .int .i64 P, .int .i64 d]
  rw [World.size_alloc] at hW
  have HW := Lib.hid hW
  clear hW
  have HF := Lib.hid (((Fr.refl (fun _ => False) w).alloc (.cells #[.int .i64 s, .int .i64 p] 23)).alloc (.cells #[.int .u64 (wordM F 0 : Nat), .int .u64 (wordM F 1 : Nat), .int .u64 (wordM F 2 : Nat), .int .u64 (wordM F 3 : Nat), .int .i64 R, .int .i64 P, .int .i64 d] 45))
  have b0 : decide (R < 1) = false := decide_eq_false (by omega)
  have b1 : decide ((32 : Int) < R) = true := decide_eq_true (by omega)
  go_enter Try.func26, Try.ntmps26
  go_wp2_with fail
  refine (H15.out _).mono ?_
  rintro e w1 ⟨v1, rfl, hf1⟩
  have hW1 := HW.out.fr hf1 (fun h => h)
  have HF1 := Lib.hid (HF.out.then hf1)
  clear hf1 HF HW
  have e1 := fun i => hW1.cell i
  go_wp2_with fail
  go_ret2
  exact ⟨rfl, HF1.out⟩

set_option maxRecDepth 20000 in
set_option maxHeartbeats 1000000 in
theorem bad26_3 (s p : Int) (F : Nat) (R P d : Int) (h0 : ¬ R < 1) (h1 : ¬ 32 < R) (h2 : P < 1) (w : World)
    (H15 : Hid (∀ W, Calls Try.prog 15 #[.agg #[.int .i64 s, .int .i64 p], .int .i64 d] W fun e w' => ∃ v, e = .returned (.tuple #[v, .int .i64 0]) ∧ Fr (fun _ => False) W w')) :
    Calls Try.prog 26 #[.agg #[.int .i64 s, .int .i64 p], .agg #[.int .u64 (wordM F 0 : Nat), .int .u64 (wordM F 1 : Nat), .int .u64 (wordM F 2 : Nat), .int .u64 (wordM F 3 : Nat), .int .i64 R, .int .i64 P, .int .i64 d]] w fun e w' => e = .returned (.tuple #[.slice none 0 0, .int .i64 1]) ∧ Fr (fun _ => False) w w' := by
  have hW := Blk.new (w.alloc (.cells #[.int .i64 s, .int .i64 p] 23)) 45 #[.int .u64 (wordM F 0 : Nat), .int .u64 (wordM F 1 : Nat), .int .u64 (wordM F 2 : Nat), .int .u64 (wordM F 3 : Nat), .int .i64 R, .int .i64 P, .int .i64 d]
  rw [World.size_alloc] at hW
  have HW := Lib.hid hW
  clear hW
  have HF := Lib.hid (((Fr.refl (fun _ => False) w).alloc (.cells #[.int .i64 s, .int .i64 p] 23)).alloc (.cells #[.int .u64 (wordM F 0 : Nat), .int .u64 (wordM F 1 : Nat), .int .u64 (wordM F 2 : Nat), .int .u64 (wordM F 3 : Nat), .int .i64 R, .int .i64 P, .int .i64 d] 45))
  have b0 : decide (R < 1) = false := decide_eq_false (by omega)
  have b1 : decide ((32 : Int) < R) = false := decide_eq_false (by omega)
  have b2 : decide (P < 1) = true := decide_eq_true (by omega)
  go_enter Try.func26, Try.ntmps26
  go_wp2_with fail
  refine (H15.out _).mono ?_
  rintro e w1 ⟨v1, rfl, hf1⟩
  have hW1 := HW.out.fr hf1 (fun h => h)
  have HF1 := Lib.hid (HF.out.then hf1)
  clear hf1 HF HW
  have e1 := fun i => hW1.cell i
  go_wp2_with fail
  go_ret2
  exact ⟨rfl, HF1.out⟩

set_option maxRecDepth 20000 in
set_option maxHeartbeats 1000000 in
theorem bad26_4 (s p : Int) (F : Nat) (R P d : Int) (h0 : ¬ R < 1) (h1 : ¬ 32 < R) (h2 : ¬ P < 1) (h3 : 256 < P) (w : World)
    (H15 : Hid (∀ W, Calls Try.prog 15 #[.agg #[.int .i64 s, .int .i64 p], .int .i64 d] W fun e w' => ∃ v, e = .returned (.tuple #[v, .int .i64 0]) ∧ Fr (fun _ => False) W w')) :
    Calls Try.prog 26 #[.agg #[.int .i64 s, .int .i64 p], .agg #[.int .u64 (wordM F 0 : Nat), .int .u64 (wordM F 1 : Nat), .int .u64 (wordM F 2 : Nat), .int .u64 (wordM F 3 : Nat), .int .i64 R, .int .i64 P, .int .i64 d]] w fun e w' => e = .returned (.tuple #[.slice none 0 0, .int .i64 1]) ∧ Fr (fun _ => False) w w' := by
  have hW := Blk.new (w.alloc (.cells #[.int .i64 s, .int .i64 p] 23)) 45 #[.int .u64 (wordM F 0 : Nat), .int .u64 (wordM F 1 : Nat), .int .u64 (wordM F 2 : Nat), .int .u64 (wordM F 3 : Nat), .int .i64 R, .int .i64 P, .int .i64 d]
  rw [World.size_alloc] at hW
  have HW := Lib.hid hW
  clear hW
  have HF := Lib.hid (((Fr.refl (fun _ => False) w).alloc (.cells #[.int .i64 s, .int .i64 p] 23)).alloc (.cells #[.int .u64 (wordM F 0 : Nat), .int .u64 (wordM F 1 : Nat), .int .u64 (wordM F 2 : Nat), .int .u64 (wordM F 3 : Nat), .int .i64 R, .int .i64 P, .int .i64 d] 45))
  have b0 : decide (R < 1) = false := decide_eq_false (by omega)
  have b1 : decide ((32 : Int) < R) = false := decide_eq_false (by omega)
  have b2 : decide (P < 1) = false := decide_eq_false (by omega)
  have b3 : decide ((256 : Int) < P) = true := decide_eq_true (by omega)
  go_enter Try.func26, Try.ntmps26
  go_wp2_with fail
  refine (H15.out _).mono ?_
  rintro e w1 ⟨v1, rfl, hf1⟩
  have hW1 := HW.out.fr hf1 (fun h => h)
  have HF1 := Lib.hid (HF.out.then hf1)
  clear hf1 HF HW
  have e1 := fun i => hW1.cell i
  go_wp2_with fail
  go_ret2
  exact ⟨rfl, HF1.out⟩

def refP (l : LayD) (x : WishD) : List Nat × Int := if okW l x then refA x.free x.ranks.toNat x.per.toNat (l.order x.dist) else ([], 1)

theorem assign26_any (l : LayD) (x : WishD) (w : World) : Calls Try.prog 26 #[l.val, x.val] w fun e w' => ∃ v, e = .returned (.tuple #[v, .int .i64 (refP l x).2]) ∧ w'.ownsRow w.heap.size 40 4 v (refP l x).1.length (flatM (refP l x).1) ∧ Fr (fun _ => False) w w' := by
  have h15 := fun W => order15_any l x.dist W
  by_cases h : okW l x
  · rw [show refP l x = refA x.free x.ranks.toNat x.per.toNat (l.order x.dist) from if_pos h]
    obtain ⟨ho, h1, h2⟩ := h
    have hlen := order_len l x.dist
    rw [show orderE l x.dist = 0 from if_pos ho] at h15
    obtain ⟨s, p⟩ := l
    obtain ⟨F, r, q, d⟩ := x
    simp only at ho h1 h2 h15 hlen
    generalize LayD.order _ d = L at *
    obtain ⟨r', rfl⟩ : ∃ r' : Nat, r = (r' : Int) := ⟨r.toNat, by omega⟩
    obtain ⟨q', rfl⟩ : ∃ q' : Nat, q = (q' : Int) := ⟨q.toNat, by omega⟩
    simp only [Int.toNat_natCast]
    exact assign26_good s p F r' q' (by omega) (by omega) d L hlen (Lib.hid h15) w _ rfl
  · rw [show refP l x = ([], 1) from if_neg h]
    have key : Calls Try.prog 26 #[l.val, x.val] w fun e w' => e = .returned (.tuple #[.slice none 0 0, .int .i64 1]) ∧ Fr (fun _ => False) w w' := by
      have h15' : ∀ W, Calls Try.prog 15 #[l.val, .int .i64 x.dist] W fun e w' => ∃ v, e = .returned (.tuple #[v, .int .i64 (orderE l x.dist)]) ∧ Fr (fun _ => False) W w' := fun W => (h15 W).mono fun e w' ⟨v, he, _, hf⟩ => ⟨v, he, hf⟩
      by_cases ho : okO l x.dist
      · rw [show orderE l x.dist = 0 from if_pos ho] at h15'
        obtain ⟨s, p⟩ := l
        obtain ⟨F, r, q, d⟩ := x
        have hn : ¬ ((1 ≤ r ∧ r ≤ 32) ∧ (1 ≤ q ∧ q ≤ 256)) := fun hh => h ⟨ho, hh⟩
        by_cases c1 : r < 1
        · exact bad26_1 s p F r q d c1 w (Lib.hid h15')
        by_cases c2 : 32 < r
        · exact bad26_2 s p F r q d c1 c2 w (Lib.hid h15')
        by_cases c3 : q < 1
        · exact bad26_3 s p F r q d c1 c2 c3 w (Lib.hid h15')
        · exact bad26_4 s p F r q d c1 c2 c3 (by omega) w (Lib.hid h15')
      · rw [show orderE l x.dist = 1 from if_neg ho] at h15'
        obtain ⟨s, p⟩ := l
        obtain ⟨F, r, q, d⟩ := x
        exact bad26_0 s p F r q d w (Lib.hid h15')
    refine key.mono ?_
    rintro e w' ⟨rfl, hf⟩
    exact ⟨_, rfl, World.ownsRow_nil _ _ _ _, hf⟩

end Go.Proofs.Ytcefadbnmpjeiaa

