/-
  The heap's methods: Swap.
-/
import Derived.Test.YtdlpiaglgdafoaaTb
namespace Go.Proofs.Ytdlpiaglgdafoaa
open Go.RowKit Go.Maps

section
variable {w : World} {base q : Nat} {mv : Value} {L : List EntD} {v : Value}

theorem swapL_map {i j : Nat} (hi : i < L.length) (hj : j < L.length) : (swapL L i j).map encE = ((L.map encE).set i (encE (L[j]'hj))).set j (encE (L[i]'hi)) := by
  unfold swapL
  rw [List.getD_eq_getElem?_getD, List.getD_eq_getElem?_getD, List.getElem?_eq_getElem hi, List.getElem?_eq_getElem hj, List.map_set, List.map_set]
  rfl
theorem swapL_elem {i j k : Nat} (hi : i < L.length) (hj : j < L.length) (hk : k < (swapL L i j).length) : (swapL L i j)[k]'hk = if k = j then L[i]'hi else if k = i then L[j]'hj else L[k]'(by rw [swapL_len] at hk; exact hk) := by
  have hk' : k < L.length := by rw [swapL_len] at hk; exact hk
  have := swapL_get L hi hj k
  rw [List.getD_eq_getElem?_getD, List.getElem?_eq_getElem hk, List.getD_eq_getElem?_getD, List.getD_eq_getElem?_getD, List.getD_eq_getElem?_getD, List.getElem?_eq_getElem hi, List.getElem?_eq_getElem hj, List.getElem?_eq_getElem hk'] at this
  exact this

theorem HAt.row_ne (h : HAt w base q mv L v) {g : Nat} (hg : v.ownBlock = some g) : q ≠ g ∧ ∀ k (hk : k < L.length), (L[k]'hk).1 ≠ g := by
  obtain ⟨cur, hc⟩ := ownsRow_block h.row hg
  refine ⟨fun e => ?_, fun k hk e => ?_⟩
  · have hb := h.blk
    unfold Blk at hb
    rw [e, hc] at hb; cases hb
  · have hb := h.ent k hk
    unfold Blk at hb
    rw [e, hc] at hb; cases hb
theorem HAt.q_ne (h : HAt w base q mv L v) (k : Nat) (hk : k < L.length) : q ≠ (L[k]'hk).1 := fun e => by
  have hb := h.ent k hk
  rw [← e] at hb
  exact absurd (h.blk.uniq hb).1 (by decide)

/-- The two stores into the slice, and the two into the entries. -/
theorem HAt.swap (h : HAt w base q mv L v) {i j g cap : Nat} (hi : i < L.length) (hj : j < L.length) (hv : v = .slice (some ⟨g, 0, none⟩) L.length cap) :
    HAt ((((w.setCell ⟨g, i, none⟩ (encE (L[j]'hj))).setCell ⟨g, j, none⟩ (encE (L[i]'hi))).drew.setCell ⟨(L[j]'hj).1, 2, none⟩ (.int .i64 i)).setCell ⟨(L[i]'hi).1, 2, none⟩ (.int .i64 j)).drew base q mv (swapL L i j) v ∧
    Fr (HS v L) w ((((w.setCell ⟨g, i, none⟩ (encE (L[j]'hj))).setCell ⟨g, j, none⟩ (encE (L[i]'hi))).drew.setCell ⟨(L[j]'hj).1, 2, none⟩ (.int .i64 i)).setCell ⟨(L[i]'hi).1, 2, none⟩ (.int .i64 j)).drew := by
  have hg : v.ownBlock = some g := by rw [hv]; rfl
  obtain ⟨n1, n2⟩ := h.row_ne hg
  have hF : Fr (HS v L) w ((((w.setCell ⟨g, i, none⟩ (encE (L[j]'hj))).setCell ⟨g, j, none⟩ (encE (L[i]'hi))).drew.setCell ⟨(L[j]'hj).1, 2, none⟩ (.int .i64 i)).setCell ⟨(L[i]'hi).1, 2, none⟩ (.int .i64 j)).drew :=
    ((((((Fr.refl (HS v L) w).setCell (p := ⟨g, i, none⟩) (Or.inl (Or.inl hg)) _).setCell (p := ⟨g, j, none⟩) (Or.inl (Or.inl hg)) _).drew).setCell (p := ⟨(L[j]'hj).1, 2, none⟩) (Or.inl (Or.inr ⟨_, List.getElem_mem hj, rfl⟩)) _).setCell (p := ⟨(L[i]'hi).1, 2, none⟩) (Or.inl (Or.inr ⟨_, List.getElem_mem hi, rfl⟩)) _).drew
  refine ⟨⟨?_, ?_, fun k hk => ?_, fun e he => h.eb e ((swapL_perm L hi hj).mem_iff.1 he), h.hq⟩, hF⟩
  · refine h.blk.fr hF ?_
    rintro (e | ⟨x, hx, e⟩)
    · rw [hg] at e; exact n1 (Option.some.inj e).symm
    · obtain ⟨k, hk, rfl⟩ := List.getElem_of_mem hx
      exact h.q_ne k hk e.symm
  · have r1 := h.row
    rw [hv] at r1
    obtain ⟨r2, _⟩ := World.ownsRow.stored r1 i (encE (L[j]'hj))
    obtain ⟨r3, _⟩ := World.ownsRow.stored r2 j (encE (L[i]'hi))
    have r4 := ownsRow_fr r3 ((((Fr.refl (fun k => k = (L[j]'hj).1 ∨ k = (L[i]'hi).1) ((w.setCell ⟨g, i, none⟩ (encE (L[j]'hj))).setCell ⟨g, j, none⟩ (encE (L[i]'hi)))).drew.setCell (p := ⟨(L[j]'hj).1, 2, none⟩) (Or.inl (Or.inl rfl)) (.int .i64 i)).setCell (p := ⟨(L[i]'hi).1, 2, none⟩) (Or.inl (Or.inr rfl)) (.int .i64 j)).drew) (fun k hk e => by
      cases hk
      rcases e with e | e
      · exact n2 j hj e.symm
      · exact n2 i hi e.symm)
    rw [hv, swapL_map hi hj, swapL_len]
    exact r4
  · have hk' : k < L.length := by rw [swapL_len] at hk; exact hk
    rw [swapL_elem hi hj hk]
    have hb := fun k hk => (((h.ent k hk).far (p := ⟨g, i, none⟩) (n2 k hk) (encE (L[j]'hj))).far (p := ⟨g, j, none⟩) (n2 k hk) (encE (L[i]'hi))).fr (Fr.refl (fun _ => False) _).drew (fun h => h)
    by_cases e1 : k = j
    · simp only [if_pos e1]
      have hbi := hb i hi
      by_cases e2 : (L[i]'hi).1 = (L[j]'hj).1
      · obtain rfl := h.inj hi hj e2
        have h3 := (hbi.set_ 2 (.int .i64 i)).set_ 2 (.int .i64 i)
        have h3 := h3.fr (Fr.refl (fun _ => False) _).drew (fun h => h)
        rw [e1]
        simpa using h3
      · have h3 := (hbi.far (p := ⟨(L[j]'hj).1, 2, none⟩) e2 (.int .i64 i)).set_ 2 (.int .i64 j)
        have h3 := h3.fr (Fr.refl (fun _ => False) _).drew (fun h => h)
        rw [e1]
        simpa using h3
    · simp only [if_neg e1]
      by_cases e2 : k = i
      · simp only [if_pos e2]
        have hne : (L[j]'hj).1 ≠ (L[i]'hi).1 := fun e => by have := h.inj hj hi e; omega
        have h3 := ((hb j hj).set_ 2 (.int .i64 i)).far (p := ⟨(L[i]'hi).1, 2, none⟩) hne (.int .i64 j)
        have h3 := h3.fr (Fr.refl (fun _ => False) _).drew (fun h => h)
        rw [e2]
        simpa using h3
      · simp only [if_neg e2]
        have h3 := ((hb k hk').far (p := ⟨(L[j]'hj).1, 2, none⟩) (fun e => e1 (h.inj hk' hj e)) (.int .i64 i)).far (p := ⟨(L[i]'hi).1, 2, none⟩) (fun e => e2 (h.inj hk' hi e)) (.int .i64 j)
        exact h3
end

set_option maxRecDepth 20000 in
set_option maxHeartbeats 2000000 in
theorem swap50_ne (w : World) (base q : Nat) (mv : Value) (L : List EntD) (v : Value) (h : HAt w base q mv L v) (i j : Nat) (hi : i < L.length) (hj : j < L.length) (hij : i ≠ j) (hl : L.length ≤ 100000) :
    Calls Try.prog 50 #[v, .int .i64 i, .int .i64 j] w fun e w' => e = .returned (.tuple #[]) ∧ HAt w' base q mv (swapL L i j) v ∧ Fr (HS v L) w w' := by
  obtain ⟨g, cap, rfl, ci⟩ := h.elem hi
  obtain ⟨g', cap', hv, cj⟩ := h.elem hj
  cases hv
  have fi := h.row.frozenAt i
  have fj := h.row.frozenAt j
  have i0 : (0 : Int) ≤ (i : Int) := by omega
  have j0 : (0 : Int) ≤ (j : Int) := by omega
  have i1 : (i : Int) < (L.length : Int) := by omega
  have j1 : (j : Int) < (L.length : Int) := by omega
  have hfin := h.swap (cap := cap) hi hj rfl
  obtain ⟨_, n2⟩ := h.row_ne (g := g) rfl
  have nbi := n2 i hi
  have nbj := n2 j hj
  have nij : (L[i]'hi).1 ≠ (L[j]'hj).1 := fun e => hij (h.inj hi hj e)
  have HBI := Lib.hid (h.ent i hi)
  have HBJ := Lib.hid (h.ent j hj)
  unfold encE at hfin
  generalize L[i] = ei at *
  generalize L[j] = ej at *
  obtain ⟨bi, ai, di⟩ := ei
  obtain ⟨bj, aj, dj⟩ := ej
  simp only at ci cj nbi nbj nij hfin HBI HBJ
  have HFIN := Lib.hid hfin
  have hji : j ≠ i := fun e => hij e.symm
  clear h hfin n2
  go_enter Try.func50, Try.ntmps50
  go_wp2
  go_region
  have d1 : ((w.setCell ⟨g, i, none⟩ (.pointer (some ⟨bj, 0, none⟩))).setCell ⟨g, j, none⟩ (.pointer (some ⟨bi, 0, none⟩))).cell? ⟨g, i, none⟩ = some (.pointer (some ⟨bj, 0, none⟩)) := by go_simp
  have d2 : ((w.setCell ⟨g, i, none⟩ (.pointer (some ⟨bj, 0, none⟩))).setCell ⟨g, j, none⟩ (.pointer (some ⟨bi, 0, none⟩))).cell? ⟨g, j, none⟩ = some (.pointer (some ⟨bi, 0, none⟩)) := by go_simp
  have hbi := (HBI.out.far (p := ⟨g, i, none⟩) nbi (.pointer (some ⟨bj, 0, none⟩))).far (p := ⟨g, j, none⟩) nbi (.pointer (some ⟨bi, 0, none⟩))
  have hbj := (HBJ.out.far (p := ⟨g, i, none⟩) nbj (.pointer (some ⟨bj, 0, none⟩))).far (p := ⟨g, j, none⟩) nbj (.pointer (some ⟨bi, 0, none⟩))
  generalize hw1 : ((w.setCell ⟨g, i, none⟩ (.pointer (some ⟨bj, 0, none⟩))).setCell ⟨g, j, none⟩ (.pointer (some ⟨bi, 0, none⟩))) = w1 at *
  have z1 : w1.cell? ⟨bi, 2, none⟩ = some (.int .i64 i) := hbi.cell 2
  have z2 : w1.cell? ⟨bj, 2, none⟩ = some (.int .i64 j) := hbj.cell 2
  have f1 := hbi.frozen 2
  have f2 := hbj.frozen 2
  clear hw1 hbi hbj ci cj fi fj
  go_wp2
  go_region
  go_end0
  refine ⟨rfl, ?_⟩
  exact HFIN.out

set_option maxRecDepth 20000 in
set_option maxHeartbeats 2000000 in
theorem swap50_eq (w : World) (base q : Nat) (mv : Value) (L : List EntD) (v : Value) (h : HAt w base q mv L v) (i : Nat) (hi : i < L.length) (hl : L.length ≤ 100000) :
    Calls Try.prog 50 #[v, .int .i64 i, .int .i64 i] w fun e w' => e = .returned (.tuple #[]) ∧ HAt w' base q mv (swapL L i i) v ∧ Fr (HS v L) w w' := by
  obtain ⟨g, cap, rfl, ci⟩ := h.elem hi
  have fi := h.row.frozenAt i
  have i0 : (0 : Int) ≤ (i : Int) := by omega
  have i1 : (i : Int) < (L.length : Int) := by omega
  have hfin := h.swap (cap := cap) hi hi rfl
  obtain ⟨_, n2⟩ := h.row_ne (g := g) rfl
  have nbi := n2 i hi
  have HBI := Lib.hid (h.ent i hi)
  unfold encE at hfin
  generalize L[i] = ei at *
  obtain ⟨bi, ai, di⟩ := ei
  simp only at ci nbi hfin HBI
  have HFIN := Lib.hid hfin
  clear h hfin n2
  go_enter Try.func50, Try.ntmps50
  go_wp2
  go_region
  have d1 : ((w.setCell ⟨g, i, none⟩ (.pointer (some ⟨bi, 0, none⟩))).setCell ⟨g, i, none⟩ (.pointer (some ⟨bi, 0, none⟩))).cell? ⟨g, i, none⟩ = some (.pointer (some ⟨bi, 0, none⟩)) := by go_simp
  have hbi := (HBI.out.far (p := ⟨g, i, none⟩) nbi (.pointer (some ⟨bi, 0, none⟩))).far (p := ⟨g, i, none⟩) nbi (.pointer (some ⟨bi, 0, none⟩))
  generalize hw1 : ((w.setCell ⟨g, i, none⟩ (.pointer (some ⟨bi, 0, none⟩))).setCell ⟨g, i, none⟩ (.pointer (some ⟨bi, 0, none⟩))) = w1 at *
  have z1 : w1.cell? ⟨bi, 2, none⟩ = some (.int .i64 i) := hbi.cell 2
  have f1 := hbi.frozen 2
  clear hw1 hbi ci fi
  go_wp2
  go_region
  go_end0
  exact ⟨rfl, HFIN.out⟩

theorem swap50_any (w : World) (base q : Nat) (mv : Value) (L : List EntD) (v : Value) (h : HAt w base q mv L v) (i j : Nat) (hi : i < L.length) (hj : j < L.length) (hl : L.length ≤ 100000) :
    Calls Try.prog 50 #[v, .int .i64 i, .int .i64 j] w fun e w' => e = .returned (.tuple #[]) ∧ HAt w' base q mv (swapL L i j) v ∧ Fr (HS v L) w w' := by
  by_cases e : i = j
  · subst e; exact swap50_eq w base q mv L v h i hi hl
  · exact swap50_ne w base q mv L v h i j hi hj e hl

end Go.Proofs.Ytdlpiaglgdafoaa
