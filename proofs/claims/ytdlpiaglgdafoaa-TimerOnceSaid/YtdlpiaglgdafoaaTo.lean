/-
  The reference's queue: At, Next, may, less, Cancel.
-/
import Derived.Test.YtdlpiaglgdafoaaTm
namespace Go.Proofs.Ytdlpiaglgdafoaa
open Go.RowKit Go.Maps

def cellsP (p : KeyD) : List Value := [.int .i64 p.1, .int .i64 p.2]
theorem cellsP_len (p : KeyD) : (cellsP p).length = 2 := rfl
theorem info62 : (Try.prog.info? 62).map (fun i => (i.zero, i.size, i.bytes)) = some (some (.agg #[.int .i64 0, .int .i64 0]), 2, 16) := by kernel_rfl

/-- The reference's queue holds S. -/
def RQ (w : World) (k : Nat) (S : List KeyD) (Y : Nat → Prop) : Prop :=
  ∃ v, Blk w k 40 #[v] ∧ w.ownsRow 0 62 2 v S.length (S.flatMap cellsP) ∧ Y = fun i => i = k ∨ v.ownBlock = some i

section
variable {Z Y : Nat → Prop} {w w' : World} {k : Nat} {S : List KeyD}
theorem RQ.lt (h : RQ w k S Y) {i : Nat} (hi : Y i) : i < w.heap.size := by
  obtain ⟨v, hb, hr, rfl⟩ := h
  rcases hi with rfl | h1
  · exact hb.lt
  · exact (hr.lt i h1).2
theorem RQ.fr (h : RQ w k S Y) (hf : Fr Z w w') (hs : ∀ i, Y i → ¬ Z i) : RQ w' k S Y := by
  obtain ⟨v, hb, hr, rfl⟩ := h
  exact ⟨v, hb.fr hf (hs k (Or.inl rfl)), ownsRow_fr hr hf (fun i hi => hs i (Or.inr hi)), rfl⟩
theorem RQ.fr0 (h : RQ w k S Y) (hf : Fr (fun _ => False) w w') : RQ w' k S Y := h.fr hf (fun _ _ h => h)
end

/-- What a call leaves of the reference. -/
def RNext (w : World) (k : Nat) (S' : List KeyD) (Y : Nat → Prop) (w' : World) : Prop := ∃ Y', RQ w' k S' Y' ∧ Fr Y w w' ∧ ∀ i, Y' i → Y i ∨ w.heap.size ≤ i

theorem drop_cons {α : Type} {L : List α} {k : Nat} (h : k < L.length) : L.drop k = L[k] :: L.drop (k + 1) := List.drop_eq_getElem_cons h

theorem atK_step {S : List KeyD} {id : Int} {k : Nat} (hk : k < S.length) : atK id (S.drop k) = if S[k].2 == id then some S[k].1 else atK id (S.drop (k + 1)) := by
  rw [drop_cons hk]
  unfold atK
  rw [List.find?_cons]
  cases h : S[k].2 == id <;> simp

/-- A row's element, its two cells. -/
theorem pair_cells {w : World} {base : Nat} {e : TypeId} {v : Value} {S : List KeyD} (h : w.ownsRow base e 2 v S.length (S.flatMap cellsP)) {k : Nat} (hk : k < S.length) :
    ∃ g cap, v = .slice (some ⟨g, 0, none⟩) S.length cap ∧ w.cell? ⟨g, k * 2, none⟩ = some (.int .i64 (S[k]'hk).1) ∧ w.cell? ⟨g, k * 2 + 1, none⟩ = some (.int .i64 (S[k]'hk).2) := by
  obtain ⟨g, cap, h1, h2⟩ := row_elem cellsP cellsP_len h hk
  exact ⟨g, cap, h1, h2 0 _ (by omega) rfl, h2 1 _ (by omega) rfl⟩

set_option maxHeartbeats 1000000 in
theorem at17_any (w : World) (q : Nat) (S : List KeyD) (Y : Nat → Prop) (h : RQ w q S Y) (id : Int) (hl : S.length ≤ 100000) (res : Option Int) (hres : Hid (res = atK id S)) :
    Calls Try.prog 17 #[.pointer (some ⟨q, 0, none⟩), .int .i64 id] w fun e w' => e = .returned (.tuple #[.int .i64 (res.getD 0), .bool res.isSome]) ∧ Fr (fun _ => False) w w' := by
  obtain ⟨v, hb, hr, rfl⟩ := h
  have HB := Lib.hid hb
  have HR := Lib.hid hr
  obtain ⟨A, cap, rfl⟩ := row_shape hr
  clear hb hr
  go_enter Try.func17, Try.ntmps17
  go_wp2_with fail
  go_loopw [6] (fun i wr => ∃ k : Nat, k ≤ S.length ∧ i = .int .i64 k ∧ Hid (res = atK id (S.drop k)) ∧ Fr (fun _ => False) w wr) (fun i _ => S.length - (intOf i).toNat)
  case atStart => exact ⟨0, Nat.zero_le _, rfl, hres, Fr.refl _ _⟩
  case round =>
    obtain ⟨k, hk, rfl, hkp, hfr⟩ := hrel
    have c0 : wr.cell? ⟨q, 0, none⟩ = some (.slice A S.length cap) := (HB.out.fr hfr (fun h => h)).cell 0
    by_cases hlt : k < S.length
    · obtain ⟨g, cp, hv, c1, c2⟩ := pair_cells (ownsRow_fr HR.out hfr (fun _ _ h => h)) hlt
      cases hv
      have hst := hkp.out
      rw [atK_step hlt] at hst
      generalize S[k] = x at *
      by_cases hx : (x.2 == id) = true
      · rw [if_pos hx] at hst
        have HST := Lib.hid hst
        clear hst hkp hres
        go_wp2
        go_ret2
        exact ⟨by rw [HST.out]; rfl, hfr⟩
      · have hx : (x.2 == id) = false := by simpa using hx
        rw [if_neg (by simp [hx])] at hst
        have HST := Lib.hid hst
        clear hst hkp hres
        go_wp2
        go_roundw
        case rel => exact ⟨k + 1, by omega, by go_num, HST, hfr⟩
        case measure => simp [intOf]; omega
    · obtain rfl : k = S.length := by omega
      have hst := hkp.out
      rw [List.drop_length] at hst
      have HST := Lib.hid hst
      clear hst hkp hres
      go_wp2
      go_ret2
      exact ⟨by rw [HST.out]; rfl, hfr⟩

set_option maxHeartbeats 1000000 in
theorem next18_any (w : World) (q : Nat) (S : List KeyD) (Y : Nat → Prop) (h : RQ w q S Y) (hl : S.length ≤ 100000) :
    Calls Try.prog 18 #[.pointer (some ⟨q, 0, none⟩)] w fun e w' => e = .returned (.tuple #[.int .i64 (nextK S).1, .int .i64 (nextK S).2.1, .bool (nextK S).2.2]) ∧ Fr (fun _ => False) w w' := by
  obtain ⟨v, hb, hr, rfl⟩ := h
  obtain ⟨A, cap, rfl⟩ := row_shape hr
  have c0 := hb.cell 0
  cases S with
  | nil =>
    simp only [nextK]
    clear hb hr
    go_enter Try.func18, Try.ntmps18
    go_wp2
    go_ret3
    exact ⟨rfl, Fr.refl _ _⟩
  | cons p r =>
    obtain ⟨g, cp, hv, c1, c2⟩ := pair_cells hr (k := 0) (by simp)
    cases hv
    simp only [nextK, List.getElem_cons_zero, Nat.zero_mul, Nat.zero_add] at c1 c2 ⊢
    have n1 : ((((p :: r).length : Nat) : Int) == 0) = false := by simp; omega
    have n2 : (0 : Int) < (((p :: r).length : Nat) : Int) := by simp only [List.length_cons]; omega
    have l0 := Later.cell c0
    have l1 := Later.cell c1
    have l2 := Later.cell c2
    clear hb hr c1 c2
    go_enter Try.func18, Try.ntmps18
    go_wp2_with fail
    refine wp_region_later w (by kernel_rfl) (by kernel_rfl) (Fr.refl _ _) ?_
    clear c0
    repeat (go_big_quiet_step (fail))
    refine wpQuiet_nil ?_
    rintro _ ⟨d, rfl⟩
    go_wp2
    go_ret3
    exact ⟨rfl, d.fr⟩

set_option maxHeartbeats 400000 in
theorem may30_any (n : Int) (w : World) : Calls Try.prog 30 #[.int .i64 n] w fun e w' => e = .returned (.bool (mayB n)) ∧ w = w' := by
  by_cases h1 : 0 ≤ n
  · by_cases h2 : n ≤ 1099511627776
    · have e : mayB n = true := decide_eq_true ⟨h1, h2⟩
      rw [e]
      go_enter Try.func30, Try.ntmps30
      go_wp2
      go_ret
      exact ⟨rfl, rfl⟩
    · have e : mayB n = false := decide_eq_false (fun h => h2 h.2)
      rw [e]
      go_enter Try.func30, Try.ntmps30
      go_wp2
      go_ret
      exact ⟨rfl, rfl⟩
  · have e : mayB n = false := decide_eq_false (fun h => h1 h.1)
    rw [e]
    go_enter Try.func30, Try.ntmps30
    go_wp2
    go_ret
    exact ⟨rfl, rfl⟩

set_option maxHeartbeats 1000000 in
theorem less31_any (a1 a2 b1 b2 : Int) (w : World) : Calls Try.prog 31 #[.agg #[.int .i64 a1, .int .i64 a2], .agg #[.int .i64 b1, .int .i64 b2]] w fun e w' => e = .returned (.bool (ltK (a1, a2) (b1, b2))) ∧ Fr (fun _ => False) w w' := by
  have hf : Fr (fun _ => False) w ((w.alloc (.cells #[.int .i64 a1, .int .i64 a2] 62)).alloc (.cells #[.int .i64 b1, .int .i64 b2] 62)) := ((Fr.refl _ w).alloc _).alloc _
  by_cases h1 : a1 < b1
  · have e : ltK (a1, a2) (b1, b2) = true := decide_eq_true (Or.inl h1)
    rw [e]
    go_enter Try.func31, Try.ntmps31
    go_wp2
    go_ret
    exact ⟨rfl, hf⟩
  · by_cases h2 : a1 = b1
    · subst h2
      by_cases h3 : a2 < b2
      · have e : ltK (a1, a2) (a1, b2) = true := decide_eq_true (Or.inr ⟨rfl, h3⟩)
        rw [e]
        go_enter Try.func31, Try.ntmps31
        go_wp2
        go_ret
        exact ⟨rfl, hf⟩
      · have e : ltK (a1, a2) (a1, b2) = false := decide_eq_false (fun h => by simp only at h; omega)
        rw [e]
        go_enter Try.func31, Try.ntmps31
        go_wp2
        go_ret
        exact ⟨rfl, hf⟩
    · have e : ltK (a1, a2) (b1, b2) = false := decide_eq_false (fun h => by simp only at h; omega)
      have b1' : (a1 == b1) = false := by simpa using h2
      rw [e]
      go_enter Try.func31, Try.ntmps31
      go_wp2
      go_ret
      exact ⟨rfl, hf⟩

end Go.Proofs.Ytdlpiaglgdafoaa
