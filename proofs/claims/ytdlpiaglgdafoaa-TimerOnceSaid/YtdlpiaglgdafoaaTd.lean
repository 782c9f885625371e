/-
  container/heap: down, at the deadlines.
-/
import Derived.Test.YtdlpiaglgdafoaaTc
namespace Go.Proofs.Ytdlpiaglgdafoaa
open Go.RowKit Go.Maps

/-- What 'down' leaves. -/
def DownPost (base q : Nat) (mv : Value) (L : List EntD) (v : Value) (n i0 : Nat) (w : World) (e : Ending) (w' : World) : Prop :=
  ∃ L' b, e = .returned (.bool b) ∧ HAt w' base q mv L' v ∧ L'.Perm L ∧ (∀ k, n ≤ k → L'[k]? = L[k]?) ∧ ((b = true ∧ HeapN L' n) ∨ (b = false ∧ L' = L ∧ UInv L n i0)) ∧ Fr (HS v L) w w'

theorem swapL_tail {L : List EntD} {i j n k : Nat} (hi : i < n) (hj : j < n) (hk : n ≤ k) : (swapL L i j)[k]? = L[k]? := by
  unfold swapL
  rw [List.getElem?_set_ne (by omega), List.getElem?_set_ne (by omega)]

/-- Between two rounds. -/
structure DRel (base q : Nat) (mv : Value) (L : List EntD) (v : Value) (n i0 : Nat) (w : World) (k : Nat) (L' : List EntD) (wr : World) : Prop where
  at_ : HAt wr base q mv L' v
  perm : L'.Perm L
  tail : ∀ k, n ≤ k → L'[k]? = L[k]?
  inv : DInv L' n i0 k
  same : k = i0 → L' = L
  fr : Fr (HS v L) w wr

theorem DRel.done {base q : Nat} {mv : Value} {L : List EntD} {v : Value} {n i0 : Nat} {w wr w' : World} {k : Nat} {L' : List EntD} (h : DRel base q mv L v n i0 w k L' wr) (hf : Fr (fun _ => False) wr w')
    (hc : ∀ c, c < n → (c = 2 * k + 1 ∨ c = 2 * k + 2) → leK (ky L' k) (ky L' c)) : DownPost base q mv L v n i0 w (.returned (.bool (decide (i0 < k)))) w' := by
  rcases h.inv.done hc with ⟨h1, h2⟩ | ⟨rfl, h2⟩
  · exact ⟨L', _, rfl, h.at_.fr0 hf, h.perm, h.tail, Or.inl ⟨decide_eq_true (by omega), h2⟩, h.fr.trans hf (fun _ _ h => h.elim)⟩
  · have e := h.same rfl
    subst e
    exact ⟨L', _, rfl, h.at_.fr0 hf, h.perm, h.tail, Or.inr ⟨decide_eq_false (by omega), rfl, h2⟩, h.fr.trans hf (fun _ _ h => h.elim)⟩

theorem DRel.step {base q : Nat} {mv : Value} {L : List EntD} {v : Value} {n i0 : Nat} {w wr w1 w' : World} {k j : Nat} {L' : List EntD} (h : DRel base q mv L v n i0 w k L' wr) (hn : n ≤ L.length) (hj : j < n) (hc : j = 2 * k + 1 ∨ j = 2 * k + 2)
    (hl : ltK (ky L' j) (ky L' k) = true) (ho : ∀ c, c < n → (c = 2 * k + 1 ∨ c = 2 * k + 2) → leK (ky L' j) (ky L' c)) (hf1 : Fr (fun _ => False) wr w1) (ha : HAt w' base q mv (swapL L' k j) v) (hf : Fr (HS v L') w1 w') :
    DRel base q mv L v n i0 w j (swapL L' k j) w' where
  at_ := ha
  perm := (swapL_perm L' (by rw [h.perm.length_eq]; omega) (by rw [h.perm.length_eq]; omega)).trans h.perm
  tail m hm := (swapL_tail (n := n) (by omega) hj hm).trans (h.tail m hm)
  inv := h.inv.step (by rw [h.perm.length_eq]; exact hn) hj hc hl ho
  same e := by have := h.inv.2.2; omega
  fr := (h.fr.trans hf1 (fun _ _ h => h.elim)).trans hf (fun i _ hi => hi.perm h.perm)

theorem go_mul2 {k : Nat} (hk : k ≤ 100000) : IntKind.i64.wrap (2 * (k : Int)) = 2 * (k : Int) := IntWalk.i64_in _ (by omega)

set_option maxRecDepth 20000 in
set_option maxHeartbeats 4000000 in
theorem down28_any (w : World) (base q : Nat) (mv : Value) (L : List EntD) (v : Value) (h : HAt w base q mv L v) (n i0 : Nat) (hn : n ≤ L.length) (hi0 : i0 ≤ 100000) (hD : DInv L n i0 i0) (hl : L.length ≤ 100000) :
    Calls Try.prog 28 #[.iface 58 (.pointer (some ⟨q, 0, none⟩)), .int .i64 i0, .int .i64 n] w (DownPost base q mv L v n i0 w) := by
  have HR := Lib.hid (DRel.mk h (List.Perm.refl L) (fun _ _ => rfl) hD (fun _ => rfl) (Fr.refl (HS v L) w))
  obtain ⟨A, cap, rfl⟩ := h.shape
  clear h hD
  go_enter Try.func28, Try.ntmps28
  go_wp2_with fail
  go_loopw [7] (fun i wr => ∃ (k : Nat) (L' : List EntD), k ≤ 100000 ∧ i = .int .i64 k ∧ DRel base q mv L (.slice A L.length cap) n i0 w k L' wr) (fun i _ => 200000 - (intOf i).toNat)
  case atStart => exact ⟨i0, L, hi0, rfl, HR.out⟩
  case round =>
    obtain ⟨k, L', hk, rfl, hrel⟩ := hrel
    have hlen := hrel.perm.length_eq
    have hc := hrel.at_.blk.cell 0
    have mle := m_less hc
    have k0 : (0 : Int) ≤ (k : Int) := by omega
    have k1 : (k : Int) ≤ 100000 := by omega
    have n1 : (n : Int) ≤ 100000 := by omega
    have HRL := Lib.hid hrel
    have hless := fun W (hf : Fr (fun _ => False) wr W) i j hi hj => less49_any W base q mv L' _ (hrel.at_.fr0 hf) i j hi hj (by omega)
    have HLESS := Lib.hid hless
    have HC := Lib.hid (fun W (hf : Fr (fun _ => False) wr W) => (hrel.at_.fr0 hf).blk.cell 0)
    have HSW := Lib.hid (fun W (hf : Fr (fun _ => False) wr W) i j hi hj => swap50_any W base q mv L' _ (hrel.at_.fr0 hf) i j hi hj (by omega))
    clear hrel hless hc
    by_cases h1 : 2 * k + 1 < n
    · by_cases h2 : 2 * k + 2 < n
      · cases ha : ltK (ky L' (2 * k + 2)) (ky L' (2 * k + 1)) with
        | true =>
          have HLE := Lib.hid (show ∀ c, c < n → (c = 2 * k + 1 ∨ c = 2 * k + 2) → leK (ky L' (2 * k + 2)) (ky L' c) from fun c hc he => by
            rcases he with rfl | rfl
            · exact ltK_le ha
            · exact leK.refl _)
          have c1 := HLESS.out _ (Fr.refl _ _) (2 * k + 2) (2 * k + 1) (by omega) (by omega)
          rw [ha] at c1
          have C1 := Lib.hid c1
          clear c1 ha
          go_wp2_with fail
          refine C1.out.mono ?_
          rintro e w2 ⟨rfl, hf2⟩
          clear mle
          cases hb : ltK (ky L' (2 * k + 2)) (ky L' k) with
          | false =>
            have hb' := Lib.hid (ltK_not hb)
            have c3 := HLESS.out _ hf2 (2 * k + 2) k (by omega) (by omega)
            rw [hb] at c3
            have C3 := Lib.hid c3
            have mle2 := m_less (HC.out _ hf2)
            clear c3 hb
            go_wp2_with fail
            refine C3.out.mono ?_
            rintro e w3 ⟨rfl, hf3⟩
            go_wp2_with fail
            go_ret
            exact HRL.out.done (hf2.then hf3) (fun c hc he => hb'.out.trans (HLE.out c hc he))
          | true =>
            have hb' := Lib.hid hb
            have c3 := HLESS.out _ hf2 (2 * k + 2) k (by omega) (by omega)
            rw [hb] at c3
            have C3 := Lib.hid c3
            have mle2 := m_less (HC.out _ hf2)
            clear c3 hb
            go_wp2_with fail
            refine C3.out.mono ?_
            rintro e w3 ⟨rfl, hf3⟩
            have msw := m_swap (HC.out _ (hf2.then hf3))
            have C4 := Lib.hid (HSW.out _ (hf2.then hf3) k (2 * k + 2) (by omega) (by omega))
            go_wp2_with fail
            refine C4.out.mono ?_
            rintro e w4 ⟨rfl, ha4, hf4⟩
            have HS4 := Lib.hid (HRL.out.step hn (by omega) (by omega) hb'.out HLE.out (hf2.then hf3) ha4 hf4)
            clear ha4 hf4 msw
            go_wp2_with fail
            go_roundw
            case rel => exact ⟨2 * k + 2, _, by omega, by go_num, HS4.out⟩
            case measure => simp [intOf]; omega
        | false =>
          have HLE := Lib.hid (show ∀ c, c < n → (c = 2 * k + 1 ∨ c = 2 * k + 2) → leK (ky L' (2 * k + 1)) (ky L' c) from fun c hc he => by
            rcases he with rfl | rfl
            · exact leK.refl _
            · exact ltK_not ha)
          have c1 := HLESS.out _ (Fr.refl _ _) (2 * k + 2) (2 * k + 1) (by omega) (by omega)
          rw [ha] at c1
          have C1 := Lib.hid c1
          clear c1 ha
          go_wp2_with fail
          refine C1.out.mono ?_
          rintro e w2 ⟨rfl, hf2⟩
          clear mle
          cases hb : ltK (ky L' (2 * k + 1)) (ky L' k) with
          | false =>
            have hb' := Lib.hid (ltK_not hb)
            have c3 := HLESS.out _ hf2 (2 * k + 1) k (by omega) (by omega)
            rw [hb] at c3
            have C3 := Lib.hid c3
            have mle2 := m_less (HC.out _ hf2)
            clear c3 hb
            go_wp2_with fail
            refine C3.out.mono ?_
            rintro e w3 ⟨rfl, hf3⟩
            go_wp2_with fail
            go_ret
            exact HRL.out.done (hf2.then hf3) (fun c hc he => hb'.out.trans (HLE.out c hc he))
          | true =>
            have hb' := Lib.hid hb
            have c3 := HLESS.out _ hf2 (2 * k + 1) k (by omega) (by omega)
            rw [hb] at c3
            have C3 := Lib.hid c3
            have mle2 := m_less (HC.out _ hf2)
            clear c3 hb
            go_wp2_with fail
            refine C3.out.mono ?_
            rintro e w3 ⟨rfl, hf3⟩
            have msw := m_swap (HC.out _ (hf2.then hf3))
            have C4 := Lib.hid (HSW.out _ (hf2.then hf3) k (2 * k + 1) (by omega) (by omega))
            go_wp2_with fail
            refine C4.out.mono ?_
            rintro e w4 ⟨rfl, ha4, hf4⟩
            have HS4 := Lib.hid (HRL.out.step hn (by omega) (by omega) hb'.out HLE.out (hf2.then hf3) ha4 hf4)
            clear ha4 hf4 msw
            go_wp2_with fail
            go_roundw
            case rel => exact ⟨2 * k + 1, _, by omega, by go_num, HS4.out⟩
            case measure => simp [intOf]; omega
      · have HLE := Lib.hid (show ∀ c, c < n → (c = 2 * k + 1 ∨ c = 2 * k + 2) → leK (ky L' (2 * k + 1)) (ky L' c) from fun c hc he => by
          rcases he with rfl | rfl
          · exact leK.refl _
          · omega)
        have hf2 : Fr (fun _ => False) wr wr := Fr.refl _ _
        clear mle
        cases hb : ltK (ky L' (2 * k + 1)) (ky L' k) with
        | false =>
          have hb' := Lib.hid (ltK_not hb)
          have c3 := HLESS.out _ hf2 (2 * k + 1) k (by omega) (by omega)
          rw [hb] at c3
          have C3 := Lib.hid c3
          have mle2 := m_less (HC.out _ hf2)
          clear c3 hb
          go_wp2_with fail
          refine C3.out.mono ?_
          rintro e w3 ⟨rfl, hf3⟩
          go_wp2_with fail
          go_ret
          exact HRL.out.done (hf2.then hf3) (fun c hc he => hb'.out.trans (HLE.out c hc he))
        | true =>
          have hb' := Lib.hid hb
          have c3 := HLESS.out _ hf2 (2 * k + 1) k (by omega) (by omega)
          rw [hb] at c3
          have C3 := Lib.hid c3
          have mle2 := m_less (HC.out _ hf2)
          clear c3 hb
          go_wp2_with fail
          refine C3.out.mono ?_
          rintro e w3 ⟨rfl, hf3⟩
          have msw := m_swap (HC.out _ (hf2.then hf3))
          have C4 := Lib.hid (HSW.out _ (hf2.then hf3) k (2 * k + 1) (by omega) (by omega))
          go_wp2_with fail
          refine C4.out.mono ?_
          rintro e w4 ⟨rfl, ha4, hf4⟩
          have HS4 := Lib.hid (HRL.out.step hn (by omega) (by omega) hb'.out HLE.out (hf2.then hf3) ha4 hf4)
          clear ha4 hf4 msw
          go_wp2_with fail
          go_roundw
          case rel => exact ⟨2 * k + 1, _, by omega, by go_num, HS4.out⟩
          case measure => simp [intOf]; omega
    · go_wp2_with fail
      go_ret
      exact HRL.out.done (Fr.refl _ _) (fun c hc he => by omega)

end Go.Proofs.Ytdlpiaglgdafoaa
