/-
  Same: whether two rows of numbers are the same.
-/
import Derived.Test.YtomoomopodihhaaQ
import Derived.Deep.LoopGhost
namespace Go.Proofs.Ytomoomopodihhaa
open Go.RowKit Go.Maps Go.Sort Go.Shelf

/-- The slice v holds the numbers L. -/
def IntsAt (w : World) (v : Value) (L : List Int) : Prop := w.ownsRow 0 3 1 v L.length (L.map encZ)

theorem IntsAt.fr {S : Nat → Prop} {w w' : World} {v : Value} {L : List Int} (h : IntsAt w v L) (hf : Fr S w w') (hs : ∀ k, v.ownBlock = some k → ¬ S k) : IntsAt w' v L := ownsRow_fr h hf hs
theorem IntsAt.fr0 {w w' : World} {v : Value} {L : List Int} (h : IntsAt w v L) (hf : Fr (fun _ => False) w w') : IntsAt w' v L := ownsRow_fr h hf (fun _ _ h => h)
theorem IntsAt.elem {w : World} {v : Value} {L : List Int} (h : IntsAt w v L) {k : Nat} (hk : k < L.length) : ∃ g cap, v = .slice (some ⟨g, 0, none⟩) L.length cap ∧ w.cell? ⟨g, k, none⟩ = some (.int .i64 (L[k]'hk)) := row_elem1 encZ h hk

theorem take_eq_step {L L' : List Int} {k : Nat} (h1 : k < L.length) (h2 : k < L'.length) (h : L.take k = L'.take k) (e : L[k] = L'[k]) : L.take (k + 1) = L'.take (k + 1) := by
  rw [List.take_succ_eq_append_getElem h1, List.take_succ_eq_append_getElem h2, h, e]

set_option maxHeartbeats 1000000 in
theorem same29_any (w : World) (v v' : Value) (L L' : List Int) (h : IntsAt w v L) (h' : IntsAt w v' L') (hL : L.length ≤ 10000000) (hL' : L'.length ≤ 10000000) (res : Bool) (hres : Hid (res = decide (L = L'))) :
    Calls Try.prog 29 #[v, v'] w fun e w' => e = .returned (.bool res) ∧ Fr (fun _ => False) w w' := by
  obtain ⟨A, cap, rfl⟩ := row_shape h
  obtain ⟨A', cap', rfl⟩ := row_shape h'
  have HH := Lib.hid h
  have HH' := Lib.hid h'
  clear h h'
  by_cases hne : L.length = L'.length
  · have b0 : (((L.length : Int) == (L'.length : Int))) = true := by simp; omega
    go_enter Try.func29, Try.ntmps29
    go_wp2
    go_loopw [5] (fun i wr => ∃ k : Nat, k ≤ L.length ∧ i = .int .i64 k ∧ Hid (L.take k = L'.take k) ∧ Fr (fun _ => False) w wr) (fun i _ => L.length - (intOf i).toNat)
    case atStart => exact ⟨0, Nat.zero_le _, rfl, rfl, Fr.refl _ _⟩
    case round =>
      obtain ⟨k, hk, rfl, hkp, hfr⟩ := hrel
      by_cases hlt : k < L.length
      · have hlt' : k < L'.length := by omega
        obtain ⟨g, cp, hv, c1⟩ := (HH.out.fr0 hfr).elem hlt
        obtain ⟨g', cp', hv', c2⟩ := (HH'.out.fr0 hfr).elem hlt'
        cases hv
        cases hv'
        have HST := Lib.hid (take_eq_step hlt hlt' hkp.out)
        have HN := Lib.hid (fun (hx : L[k] ≠ L'[k]) => (show L ≠ L' from fun e => hx (by subst e; rfl)))
        generalize L[k] = x at *
        generalize L'[k] = y at *
        have l1 := Later.cell c1
        have l2 := Later.cell c2
        clear c1 c2
        by_cases hxy : (x == y) = true
        · go_wp2_with fail
          refine wp_region_later wr (by kernel_rfl) (by kernel_rfl) (Fr.refl _ _) ?_
          repeat (go_big_quiet_step (fail))
          refine wpQuiet_nil ?_
          rintro _ ⟨d, rfl⟩
          go_wp2
          go_roundw
          case rel => exact ⟨k + 1, by omega, by go_num, HST.out (by simpa using hxy), hfr.then d.fr⟩
          case measure => simp [intOf]; omega
        · have hxy : (x == y) = false := by simpa using hxy
          go_wp2_with fail
          refine wp_region_later wr (by kernel_rfl) (by kernel_rfl) (Fr.refl _ _) ?_
          repeat (go_big_quiet_step (fail))
          refine wpQuiet_nil ?_
          rintro _ ⟨d, rfl⟩
          go_wp2
          go_ret
          refine ⟨?_, hfr.then d.fr⟩
          rw [hres.out, decide_eq_false (HN.out (by simpa using hxy))]
          rfl
      · obtain rfl : k = L.length := by omega
        go_wp2
        go_ret
        refine ⟨?_, hfr⟩
        have e1 := hkp.out
        rw [List.take_length, hne, List.take_length] at e1
        rw [hres.out, decide_eq_true e1]
        rfl
  · have b0 : (((L.length : Int) == (L'.length : Int))) = false := by simp; omega
    go_enter Try.func29, Try.ntmps29
    go_wp2
    go_ret
    exact ⟨by rw [hres.out, decide_eq_false (fun e => hne (by rw [e]))]; rfl, Fr.refl _ _⟩

end Go.Proofs.Ytomoomopodihhaa
