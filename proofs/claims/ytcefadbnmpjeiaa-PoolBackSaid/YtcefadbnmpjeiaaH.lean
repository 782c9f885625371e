/-
  Order of both.
-/
import Derived.Test.YtcefadbnmpjeiaaG
namespace Go.Proofs.Ytcefadbnmpjeiaa
open Go.RowKit Go.Maps

/-- A layout and an order that are. -/
def okO (l : LayD) (d : Int) : Prop := l.may ∧ (d = 0 ∨ d = 1)
instance (l : LayD) (d : Int) : Decidable (okO l d) := by unfold okO; exact inferInstance
def orderE (l : LayD) (d : Int) : Int := if okO l d then 0 else 1

theorem order_not {l : LayD} {d : Int} (h : ¬ okO l d) : l.order d = [] := if_neg h
theorem nats_of {l : LayD} (h : l.may) : ∃ s p : Nat, l = ⟨(s : Int), (p : Int)⟩ ∧ (1 ≤ s ∧ s ≤ 8) ∧ (1 ≤ p ∧ p ≤ 64) ∧ s * p ≤ 256 := by
  obtain ⟨s, p⟩ := l
  obtain ⟨h1, h2, h3⟩ := h
  simp only at h1 h2 h3
  obtain ⟨a, rfl⟩ : ∃ a : Nat, s = (a : Int) := ⟨s.toNat, by omega⟩
  obtain ⟨b, rfl⟩ : ∃ b : Nat, p = (b : Int) := ⟨p.toNat, by omega⟩
  have : ((a * b : Nat) : Int) = (a : Int) * (b : Int) := by simp
  exact ⟨a, b, rfl, by omega, by omega, by omega⟩
theorem order_block {s p : Nat} (hsb : 1 ≤ s ∧ s ≤ 8) (hpb : 1 ≤ p ∧ p ≤ 64) (hsp : s * p ≤ 256) : (⟨(s : Int), (p : Int)⟩ : LayD).order 0 = upTo (s * p) := by
  unfold LayD.order
  rw [if_pos ⟨nat_may hsb hpb hsp, Or.inl rfl⟩, if_pos rfl, nat_count hsb hpb hsp, Int.toNat_natCast]
theorem order_cyclic {s p : Nat} (hsb : 1 ≤ s ∧ s ≤ 8) (hpb : 1 ≤ p ∧ p ≤ 64) (hsp : s * p ≤ 256) : (⟨(s : Int), (p : Int)⟩ : LayD).order 1 = cyc s p p := by
  unfold LayD.order
  rw [if_pos ⟨nat_may hsb hpb hsp, Or.inr rfl⟩, if_neg (by decide), Int.toNat_natCast, Int.toNat_natCast]

theorem order_len (l : LayD) (d : Int) : (l.order d).length ≤ 256 := by
  by_cases h : okO l d
  · obtain ⟨hm, hd⟩ := h
    obtain ⟨s, p, rfl, h1, h2, h3⟩ := nats_of hm
    rcases hd with rfl | rfl
    · rw [order_block h1 h2 h3, upTo_len]; exact h3
    · rw [order_cyclic h1 h2 h3, cyc_len, Nat.mul_comm]; exact h3
  · rw [order_not h]; simp

set_option maxHeartbeats 1000000 in
theorem order13_bad (l : LayD) (d : Int) (h : ¬ okO l d) (w : World) : Calls Try.prog 13 #[l.val, .int .i64 d] w fun e w' => e = .returned (.tuple #[.slice none 0 0, .int .i64 1]) ∧ Fr (fun _ => False) w w' := by
  have h49 := fun W => of49_any d W
  have h50 := fun W => may50_any l W
  have HB := Lib.hid (Blk.new w 28 #[.int .i64 l.s, .int .i64 l.p])
  by_cases hd : (ofV d).2 = true
  · have hm : ¬ l.may := fun hm => by
      refine h ⟨hm, ?_⟩
      unfold ofV at hd
      split at hd
      · exact Or.inl ‹_›
      · split at hd
        · exact Or.inr ‹_›
        · cases hd
    rw [decide_eq_false hm] at h50
    rw [hd] at h49
    have hfv : ∃ a, (ofV d).1 = .func (.func a) #[] #[] := by
      unfold ofV at hd ⊢
      split
      · exact ⟨_, rfl⟩
      · split
        · exact ⟨_, rfl⟩
        · rw [if_neg ‹_›, if_neg ‹_›] at hd; cases hd
    obtain ⟨fi, hfi⟩ := hfv
    rw [hfi] at h49
    clear h hm hd hfi
    obtain ⟨s, p⟩ := l
    simp only [LayD.val] at *
    have H49 := Lib.hid h49
    have H50 := Lib.hid h50
    clear h49 h50
    go_enter Try.func13, Try.ntmps13
    go_wp2_with fail
    refine (H49.out _).mono ?_
    rintro e w1 ⟨rfl, hf1⟩
    have hB1 := HB.out.fr hf1 (fun h => h)
    have hz := hB1.lt
    have e1 := fun i => (hB1.alloc (.cells #[.func (.func fi) #[] #[]] 87)).cell i
    go_wp2_with fail
    refine (H50.out _).mono ?_
    rintro e w2 ⟨rfl, hf2⟩
    clear e1
    go_wp2_with fail
    go_ret2
    exact ⟨rfl, ((((Fr.refl _ w).alloc _).then hf1).alloc _).then hf2⟩
  · have hd : (ofV d).2 = false := by simpa using hd
    rw [hd] at h49
    have e : (ofV d).1 = .nilFunc := by
      unfold ofV at hd ⊢
      split at hd
      · cases hd
      · split at hd
        · cases hd
        · rw [if_neg ‹_›, if_neg ‹_›]
    rw [e] at h49
    obtain ⟨s, p⟩ := l
    simp only [LayD.val] at *
    have H49 := Lib.hid h49
    clear h49 h50 h hd e
    go_enter Try.func13, Try.ntmps13
    go_wp2_with fail
    refine (H49.out _).mono ?_
    rintro e w1 ⟨rfl, hf1⟩
    go_wp2_with fail
    go_ret2
    exact ⟨rfl, (((Fr.refl _ w).alloc _).then hf1).alloc _⟩

theorem order13_any (l : LayD) (d : Int) (w : World) : Calls Try.prog 13 #[l.val, .int .i64 d] w fun e w' => ∃ v, e = .returned (.tuple #[v, .int .i64 (orderE l d)]) ∧ w'.ownsRow w.heap.size 3 1 v (l.order d).length ((l.order d).map encI) ∧ Fr (fun _ => False) w w' := by
  by_cases h : okO l d
  · have he : orderE l d = 0 := if_pos h
    rw [he]
    obtain ⟨hm, hd⟩ := h
    obtain ⟨s, p, rfl, h1, h2, h3⟩ := nats_of hm
    rcases hd with rfl | rfl
    · rw [order_block h1 h2 h3]
      exact order13_block s p h1 h2 h3 w
    · rw [order_cyclic h1 h2 h3]
      exact order13_cyclic s p h1 h2 h3 w
  · have he : orderE l d = 1 := if_neg h
    rw [he, order_not h]
    refine (order13_bad l d h w).mono ?_
    rintro e w' ⟨rfl, hf⟩
    exact ⟨_, rfl, World.ownsRow_nil _ _ _ _, hf⟩

end Go.Proofs.Ytcefadbnmpjeiaa
