/-
  container/heap: up, at the deadlines.
-/
import Derived.Test.YtdlpiaglgdafoaaTd
namespace Go.Proofs.Ytdlpiaglgdafoaa
open Go.RowKit Go.Maps

/-- What 'up' leaves. -/
def UpPost (base q : Nat) (mv : Value) (L : List EntD) (v : Value) (n : Nat) (w : World) (e : Ending) (w' : World) : Prop :=
  ∃ L', e = .returned (.tuple #[]) ∧ HAt w' base q mv L' v ∧ L'.Perm L ∧ (∀ k, n ≤ k → L'[k]? = L[k]?) ∧ HeapN L' n ∧ Fr (HS v L) w w'

/-- Between two rounds. -/
structure URel (base q : Nat) (mv : Value) (L : List EntD) (v : Value) (n : Nat) (w : World) (j : Nat) (L' : List EntD) (wr : World) : Prop where
  at_ : HAt wr base q mv L' v
  perm : L'.Perm L
  tail : ∀ k, n ≤ k → L'[k]? = L[k]?
  inv : UInv L' n j
  lt : j < n
  fr : Fr (HS v L) w wr

theorem URel.done {base q : Nat} {mv : Value} {L : List EntD} {v : Value} {n : Nat} {w wr w' : World} {j : Nat} {L' : List EntD} (h : URel base q mv L v n w j L' wr) (hf : Fr (fun _ => False) wr w')
    (hl : (j - 1) / 2 = j ∨ ltK (ky L' j) (ky L' ((j - 1) / 2)) = false) : UpPost base q mv L v n w (.returned (.tuple #[])) w' :=
  ⟨L', rfl, h.at_.fr0 hf, h.perm, h.tail, h.inv.done hl, h.fr.trans hf (fun _ _ h => h.elim)⟩

theorem URel.step {base q : Nat} {mv : Value} {L : List EntD} {v : Value} {n : Nat} {w wr w1 w' : World} {j : Nat} {L' : List EntD} (h : URel base q mv L v n w j L' wr) (hn : n ≤ L.length) (h0 : (j - 1) / 2 ≠ j)
    (hl : ltK (ky L' j) (ky L' ((j - 1) / 2)) = true) (hf1 : Fr (fun _ => False) wr w1) (ha : HAt w' base q mv (swapL L' ((j - 1) / 2) j) v) (hf : Fr (HS v L') w1 w') :
    URel base q mv L v n w ((j - 1) / 2) (swapL L' ((j - 1) / 2) j) w' where
  at_ := ha
  perm := (swapL_perm L' (by have := h.lt; rw [h.perm.length_eq]; omega) (by have := h.lt; rw [h.perm.length_eq]; omega)).trans h.perm
  tail m hm := (swapL_tail (n := n) (by have := h.lt; omega) h.lt hm).trans (h.tail m hm)
  inv := h.inv.step (by rw [h.perm.length_eq]; exact hn) h.lt h0 hl
  lt := by have := h.lt; omega
  fr := (h.fr.trans hf1 (fun _ _ h => h.elim)).trans hf (fun i _ hi => hi.perm h.perm)

set_option maxRecDepth 20000 in
set_option maxHeartbeats 4000000 in
theorem up29_any (w : World) (base q : Nat) (mv : Value) (L : List EntD) (v : Value) (h : HAt w base q mv L v) (n j0 : Nat) (hn : n ≤ L.length) (hj0 : j0 < n) (hU : UInv L n j0) (hl : L.length ≤ 100000) :
    Calls Try.prog 29 #[.iface 58 (.pointer (some ⟨q, 0, none⟩)), .int .i64 j0] w (UpPost base q mv L v n w) := by
  have HR := Lib.hid (URel.mk h (List.Perm.refl L) (fun _ _ => rfl) hU hj0 (Fr.refl (HS v L) w))
  obtain ⟨A, cap, rfl⟩ := h.shape
  clear h hU
  go_enter Try.func29, Try.ntmps29
  go_wp2_with fail
  go_loopw [1] (fun i wr => ∃ (j : Nat) (L' : List EntD), j ≤ 100000 ∧ i = .int .i64 j ∧ URel base q mv L (.slice A L.length cap) n w j L' wr) (fun i _ => (intOf i).toNat)
  case atStart => exact ⟨j0, L, by omega, rfl, HR.out⟩
  case round =>
    obtain ⟨j, L', hj, rfl, hrel⟩ := hrel
    have hlen := hrel.perm.length_eq
    have hjn := hrel.lt
    have hc := hrel.at_.blk.cell 0
    have mle := m_less hc
    have HRL := Lib.hid hrel
    have hless := fun W (hf : Fr (fun _ => False) wr W) i j hi hj => less49_any W base q mv L' _ (hrel.at_.fr0 hf) i j hi hj (by omega)
    have HLESS := Lib.hid hless
    have HC := Lib.hid (fun W (hf : Fr (fun _ => False) wr W) => (hrel.at_.fr0 hf).blk.cell 0)
    have HSW := Lib.hid (fun W (hf : Fr (fun _ => False) wr W) i j hi hj => swap50_any W base q mv L' _ (hrel.at_.fr0 hf) i j hi hj (by omega))
    clear hrel hless hc
    by_cases h0 : j = 0
    · subst h0
      have t0 : Int.tdiv (-1) 2 = 0 := by decide
      go_wp2_with fail
      go_end0
      exact HRL.out.done (Fr.refl _ _) (Or.inl rfl)
    · obtain ⟨p, hp⟩ : ∃ p, p = (j - 1) / 2 := ⟨_, rfl⟩
      have hpj : p < j := by omega
      have hq : ((j : Int) - 1) / 2 = (p : Int) := by omega
      have j0' : (0 : Int) ≤ (j : Int) - 1 := by omega
      have j1 : (j : Int) ≤ 100000 := by omega
      have p0 : (0 : Int) ≤ (p : Int) := by omega
      have b1 : ((p : Int) == (j : Int)) = false := by simp; omega
      have HP := Lib.hid hp
      cases hb : ltK (ky L' j) (ky L' p) with
      | false =>
        have hb' := Lib.hid hb
        have c3 := HLESS.out _ (Fr.refl _ _) j p (by omega) (by omega)
        rw [hb] at c3
        have C3 := Lib.hid c3
        clear c3 hb hp
        go_wp2_with fail
        refine C3.out.mono ?_
        rintro e w3 ⟨rfl, hf3⟩
        go_wp2_with fail
        go_end0
        exact HRL.out.done hf3 (Or.inr (by rw [← HP.out]; exact hb'.out))
      | true =>
        have hb' := Lib.hid hb
        have c3 := HLESS.out _ (Fr.refl _ _) j p (by omega) (by omega)
        rw [hb] at c3
        have C3 := Lib.hid c3
        clear c3 hb hp
        go_wp2_with fail
        refine C3.out.mono ?_
        rintro e w3 ⟨rfl, hf3⟩
        have msw := m_swap (HC.out _ hf3)
        have C4 := Lib.hid (HSW.out _ hf3 p j (by omega) (by omega))
        go_wp2_with fail
        refine C4.out.mono ?_
        rintro e w4 ⟨rfl, ha4, hf4⟩
        have HS4 := Lib.hid (HRL.out.step hn (by have := HP.out; omega) (by rw [← HP.out]; exact hb'.out) hf3 (by rw [← HP.out]; exact ha4) hf4)
        clear ha4 hf4 msw
        go_wp2_with fail
        go_roundw
        case rel => exact ⟨p, swapL L' p j, by omega, rfl, by have := HS4.out; rw [← HP.out] at this; exact this⟩
        case measure => simp [intOf]; omega

end Go.Proofs.Ytdlpiaglgdafoaa
