/-
  The heap's methods: Len, Less, Swap.
-/
import Derived.Test.YtdlpiaglgdafoaaTa
namespace Go.Proofs.Ytdlpiaglgdafoaa
open Go.RowKit Go.Maps

section
variable {S : Nat → Prop} {w w' : World} {base q : Nat} {mv : Value} {L : List EntD} {v : Value}
theorem HAt.fr (h : HAt w base q mv L v) (hf : Fr S w w') (hq : ¬ S q) (hs : ∀ i, HS v L i → ¬ S i) : HAt w' base q mv L v where
  blk := h.blk.fr hf hq
  row := ownsRow_fr h.row hf (fun k hk => hs k (Or.inl hk))
  ent k hk := (h.ent k hk).fr hf (hs _ (Or.inr ⟨_, List.getElem_mem hk, rfl⟩))
  eb := h.eb
  hq := h.hq
theorem HAt.fr0 (h : HAt w base q mv L v) (hf : Fr (fun _ => False) w w') : HAt w' base q mv L v := h.fr hf (fun h => h) (fun _ _ h => h)
theorem HAt.shape (h : HAt w base q mv L v) : ∃ A cap, v = .slice A L.length cap := row_shape h.row
theorem HAt.elem (h : HAt w base q mv L v) {k : Nat} (hk : k < L.length) : ∃ g cap, v = .slice (some ⟨g, 0, none⟩) L.length cap ∧ w.cell? ⟨g, k, none⟩ = some (.pointer (some ⟨(L[k]'hk).1, 0, none⟩)) := row_elem1 encE h.row hk
theorem HAt.inj (h : HAt w base q mv L v) {i j : Nat} (hi : i < L.length) (hj : j < L.length) (e : (L[i]'hi).1 = (L[j]'hj).1) : i = j := by
  have h1 := h.ent i hi
  have h2 := h.ent j hj
  rw [e] at h1
  have := (h1.uniq h2).2
  simp only [Array.mk.injEq, List.cons.injEq, Value.int.injEq, and_true, true_and] at this
  omega
end

theorem ky_get {L : List EntD} {k : Nat} (hk : k < L.length) : ky L k = (L[k]'hk).2 := by
  unfold ky
  rw [List.getD_eq_getElem?_getD, List.getElem?_eq_getElem hk, Option.getD_some]

set_option maxHeartbeats 400000 in
theorem len48_any (A : Option Addr) (n cap : Nat) (w : World) : Calls Try.prog 48 #[.slice A n cap] w fun e w' => e = .returned (.int .i64 n) ∧ w = w' := by
  go_enter Try.func48, Try.ntmps48
  go_wp2
  go_ret
  exact ⟨rfl, rfl⟩

set_option maxHeartbeats 1000000 in
theorem less49_any (w : World) (base q : Nat) (mv : Value) (L : List EntD) (v : Value) (h : HAt w base q mv L v) (i j : Nat) (hi : i < L.length) (hj : j < L.length) (hl : L.length ≤ 100000) :
    Calls Try.prog 49 #[v, .int .i64 i, .int .i64 j] w fun e w' => e = .returned (.bool (ltK (ky L i) (ky L j))) ∧ Fr (fun _ => False) w w' := by
  obtain ⟨g, cap, rfl, ci⟩ := h.elem hi
  obtain ⟨g', cap', hv, cj⟩ := h.elem hj
  cases hv
  have ei := h.ent i hi
  have ej := h.ent j hj
  rw [ky_get hi, ky_get hj]
  generalize L[i] = x at *
  generalize L[j] = y at *
  obtain ⟨bx, ax, dx⟩ := x
  obtain ⟨by_, ay, dy⟩ := y
  have p0 := Later.cell (ei.cell 0)
  have p1 := Later.cell (ei.cell 1)
  have q0 := Later.cell (ej.cell 0)
  have q1 := Later.cell (ej.cell 1)
  have l0 := Later.cell ci
  have l1 := Later.cell cj
  have i0 : (0 : Int) ≤ (i : Int) := by omega
  have j0 : (0 : Int) ≤ (j : Int) := by omega
  have i1 : (i : Int) < (L.length : Int) := by omega
  have j1 : (j : Int) < (L.length : Int) := by omega
  clear ei ej ci cj h
  by_cases ha : ax = ay
  · have b1 : (ax != ay) = false := by simpa using ha
    rw [show ltK (ax, dx) (ay, dy) = decide (dx < dy) by unfold ltK; simp [ha]]
    clear ha
    go_enter Try.func49, Try.ntmps49
    go_wp2_with fail
    refine wp_region_later w (by kernel_rfl) (by kernel_rfl) (Fr.refl _ _) ?_
    repeat (go_big_quiet_step (fail))
    refine wpQuiet_nil ?_
    rintro _ ⟨dd, rfl⟩
    go_wp2_with fail
    refine wp_region_later w (by kernel_rfl) (by kernel_rfl) dd.fr ?_
    repeat (go_big_quiet_step (fail))
    refine wpQuiet_nil ?_
    rintro _ ⟨de, rfl⟩
    go_wp2_with fail
    go_ret
    exact ⟨rfl, de.fr⟩
  · have b1 : (ax != ay) = true := by simpa using ha
    rw [show ltK (ax, dx) (ay, dy) = decide (ax < ay) by unfold ltK; simp [ha]]
    clear ha
    go_enter Try.func49, Try.ntmps49
    go_wp2_with fail
    refine wp_region_later w (by kernel_rfl) (by kernel_rfl) (Fr.refl _ _) ?_
    repeat (go_big_quiet_step (fail))
    refine wpQuiet_nil ?_
    rintro _ ⟨dd, rfl⟩
    go_wp2_with fail
    refine wp_region_later w (by kernel_rfl) (by kernel_rfl) dd.fr ?_
    repeat (go_big_quiet_step (fail))
    refine wpQuiet_nil ?_
    rintro _ ⟨de, rfl⟩
    go_wp2_with fail
    go_ret
    exact ⟨rfl, de.fr⟩

end Go.Proofs.Ytdlpiaglgdafoaa
