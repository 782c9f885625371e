/-
  Slices of numbers; Same.
-/
import Derived.Test.YtomoomopodihhaaRow
import Derived.Test.YtomoomopodihhaaLater
import Derived.WalkArith
import Derived.Deep.QuietTactic
import Derived.BigQuiet
import Derived.Deep.LoopGhost
namespace Go.Proofs.Ytomoomopodihhaa
open Go.RowKit Go.Maps

/-- The slice v holds the numbers L. -/
def IntsV (w : World) (v : Value) (L : List Int) : Prop :=
  ∃ A cap, v = .slice A L.length cap ∧ ∀ k (hk : k < L.length), ∃ b off, A = some ⟨b, off, none⟩ ∧ w.cell? ⟨b, off + k, none⟩ = some (.int .i64 (L[k]'hk))

section
variable {S : Nat → Prop} {w w' : World} {v : Value} {L : List Int}
theorem fr_cell (hf : Fr S w w') {p : Addr} {u : Value} (hc : w.cell? p = some u) (hs : ¬ S p.block) : w'.cell? p = some u := by
  have hb := World.block_lt_of_cell? w p hc
  rw [World.cell?_of_block (hf.block _ hb hs)]
  exact hc
theorem IntsV.fr (h : IntsV w v L) (hf : Fr S w w') (hs : ∀ g, v.ownBlock = some g → ¬ S g) : IntsV w' v L := by
  obtain ⟨A, cap, rfl, hc⟩ := h
  refine ⟨A, cap, rfl, fun k hk => ?_⟩
  obtain ⟨b, off, rfl, h1⟩ := hc k hk
  exact ⟨b, off, rfl, fr_cell hf h1 (hs b rfl)⟩
theorem IntsV.fr0 (h : IntsV w v L) (hf : Fr (fun _ => False) w w') : IntsV w' v L := h.fr hf (fun _ _ h => h)
theorem IntsV.of_row {base : Nat} {t : TypeId} (h : w.ownsRow base t 1 v L.length (L.map fun x => .int .i64 x)) : IntsV w v L := by
  obtain ⟨A, cap, rfl⟩ := row_shape h
  refine ⟨A, cap, rfl, fun k hk => ?_⟩
  obtain ⟨g, c2, hv, hc⟩ := row_elem1 (fun x : Int => Value.int .i64 x) h hk
  cases hv
  exact ⟨g, 0, rfl, by rw [Nat.zero_add]; exact hc⟩
end

theorem take_eq_step {L L' : List Int} {k : Nat} (h1 : k < L.length) (h2 : k < L'.length) (h : L.take k = L'.take k) (e : L[k] = L'[k]) : L.take (k + 1) = L'.take (k + 1) := by
  rw [List.take_succ_eq_append_getElem h1, List.take_succ_eq_append_getElem h2, h, e]

set_option maxHeartbeats 1000000 in
theorem same_any (w : World) (v v' : Value) (L L' : List Int) (h : IntsV w v L) (h' : IntsV w v' L') (hL : L.length ≤ maxLen) (hL' : L'.length ≤ maxLen) (res : Bool) (hres : Hid (res = decide (L = L'))) :
    Calls Try.prog 29 #[v, v'] w fun e w' => e = .returned (.bool res) ∧ Fr (fun _ => False) w w' := by
  unfold maxLen at hL hL'
  have HH := Lib.hid h
  have HH' := Lib.hid h'
  obtain ⟨A, cap, rfl, _⟩ := h
  obtain ⟨A', cap', rfl, _⟩ := h'
  by_cases hne : L.length = L'.length
  · have b0 : (((L.length : Int) == (L'.length : Int))) = true := by simp; omega
    go_enter Try.func29, Try.ntmps29
    go_wp2
    go_loopw [5] (fun i wr => ∃ k : Nat, k ≤ L.length ∧ i = .int .i64 k ∧ Hid (L.take k = L'.take k) ∧ Fr (fun _ => False) w wr) (fun i _ => L.length - (intOf i).toNat)
    case atStart => exact ⟨0, Nat.zero_le _, rfl, rfl, Fr.refl _ _⟩
    case round =>
      obtain ⟨k, hk, rfl, hkp, hfr⟩ := hrel
      by_cases hlt : k < L.length
      · have hlt' : k < L'.length := by omega
        obtain ⟨B, cp, hv, hc⟩ := HH.out.fr0 hfr
        obtain ⟨B', cp', hv', hc'⟩ := HH'.out.fr0 hfr
        cases hv
        cases hv'
        obtain ⟨g, off, rfl, c1⟩ := hc k hlt
        obtain ⟨g', off', rfl, c2⟩ := hc' k hlt'
        have HST := Lib.hid (take_eq_step hlt hlt' hkp.out)
        have HN := Lib.hid (fun (hx : L[k] ≠ L'[k]) => (show L ≠ L' from fun e => hx (by subst e; rfl)))
        generalize L[k] = x at *
        generalize L'[k] = y at *
        have l1 := Later.cell c1
        have l2 := Later.cell c2
        clear c1 c2 hc hc'
        by_cases hxy : (x == y) = true
        · go_wp2_with fail
          refine wp_region_later wr (by kernel_rfl) (by kernel_rfl) (Fr.refl _ _) ?_
          repeat (go_big_quiet_step (fail))
          refine wpQuiet_nil ?_
          rintro _ ⟨d, rfl⟩
          go_wp2
          go_roundw
          case rel => exact ⟨k + 1, by omega, by go_num, HST.out (by simpa using hxy), hfr.then d.fr⟩
          case measure => simp [intOf]; omega
        · have hxy : (x == y) = false := by simpa using hxy
          go_wp2_with fail
          refine wp_region_later wr (by kernel_rfl) (by kernel_rfl) (Fr.refl _ _) ?_
          repeat (go_big_quiet_step (fail))
          refine wpQuiet_nil ?_
          rintro _ ⟨d, rfl⟩
          go_wp2
          go_ret
          refine ⟨?_, hfr.then d.fr⟩
          rw [hres.out, decide_eq_false (HN.out (by simpa using hxy))]
          rfl
      · obtain rfl : k = L.length := by omega
        go_wp2
        go_ret
        refine ⟨?_, hfr⟩
        have e1 := hkp.out
        rw [List.take_length, hne, List.take_length] at e1
        rw [hres.out, decide_eq_true e1]
        rfl
  · have b0 : (((L.length : Int) == (L'.length : Int))) = false := by simp; omega
    go_enter Try.func29, Try.ntmps29
    go_wp2
    go_ret
    exact ⟨by rw [hres.out, decide_eq_false (fun e => hne (by rw [e]))]; rfl, Fr.refl _ _⟩

end Go.Proofs.Ytomoomopodihhaa
