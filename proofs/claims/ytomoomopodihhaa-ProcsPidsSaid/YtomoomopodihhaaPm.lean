/-
  The reference's table: Release, Exit.
-/
import Derived.Test.YtomoomopodihhaaPl
import Derived.Laws.OwnMore
namespace Go.Proofs.Ytomoomopodihhaa
open Go.RowKit Go.Maps

theorem flat_set {α : Type} (f : α → List Value) (n : Nat) (hf : ∀ a, (f a).length = n) : ∀ (L : List α) (i j : Nat) (hi : i < L.length) (hj : j < n) (u : Value) (a' : α), f a' = (f (L[i]'hi)).set j u → (L.flatMap f).set (i * n + j) u = (L.set i a').flatMap f
  | x :: r, 0, j, _, hj, u, a', h => by
    simp only [List.flatMap_cons, List.set_cons_zero, Nat.zero_mul, Nat.zero_add]
    rw [List.set_append_left _ _ (by rw [hf]; exact hj)]
    rw [h]
    rfl
  | x :: r, i + 1, j, hi, hj, u, a', h => by
    simp only [List.flatMap_cons, List.set_cons_succ]
    rw [List.set_append_right _ _ (by rw [hf, Nat.add_mul]; omega), hf]
    have e : (i + 1) * n + j - n = i * n + j := by rw [Nat.add_mul]; omega
    rw [e, flat_set f n hf r i j (by simpa using hi) hj u a' h]

/-- What a call leaves of the reference's table. -/
def RNx (w : World) (k n : Nat) (Y : Nat → Prop) (w' : World) : Prop := ∃ Y', RT w' k n Y' ∧ Fr Y w w' ∧ ∀ i, Y' i → Y i ∨ w.heap.size ≤ i

theorem RNx.same {w w' : World} {k n : Nat} {Y : Nat → Prop} (h : RT w k n Y) (hf : Fr (fun _ => False) w w') : RNx w k n Y w' := by
  obtain ⟨lv, sv, N, T, G, h1, h2, h3, h4, rfl⟩ := h
  exact ⟨_, ⟨lv, sv, N, T, G, h1.fr0 hf, h2, h3, h4, rfl⟩, hf.mono (fun _ _ h => h.elim), fun _ hi => Or.inl hi⟩

section
variable {w : World} {k : Nat} {lv sv : Value} {N : Int} {T : List TaskD} {G : List Int} {g cap : Nat}
/-- A task's number, changed. -/
theorem RTab.setT (h : RTab w k (.slice (some ⟨g, 0, none⟩) T.length cap) sv N T G) {i j : Nat} (hi : i < T.length) (hj : j < 8) (u : Value) (x' : TaskD) (hx : x'.cells = (T[i]'hi).cells.set j u) (hc : x'.cv = (T[i]'hi).cv) (hn : x'.ns = (T[i]'hi).ns) :
    RTab (w.setCell ⟨g, i * 8 + j, none⟩ u) k (.slice (some ⟨g, 0, none⟩) (T.set i x').length cap) sv N (T.set i x') G := by
  have hgk : k ≠ g := fun e => by
    obtain ⟨cur, hcur⟩ := ownsRow_block h.row (k := g) rfl
    have hb := h.blk
    unfold Blk at hb
    rw [e, hcur] at hb
    cases hb
  have hF : Fr (fun b => b = g) w (w.setCell ⟨g, i * 8 + j, none⟩ u) := (Fr.refl (fun b => b = g) w).setCell (p := ⟨g, i * 8 + j, none⟩) (Or.inl rfl) u
  have hmem : ∀ {x : TaskD}, x ∈ T.set i x' → x = x' ∨ x ∈ T := fun {x} hx => by
    rcases List.mem_or_eq_of_mem_set hx with h1 | h1
    · exact Or.inr h1
    · exact Or.inl h1
  have hxi := List.getElem_mem hi
  refine ⟨by rw [List.length_set]; exact h.blk.fr hF hgk, ?_, ownsRow_fr h.sig hF (fun b hb e => row_apart h.row h.sig (by decide) (k := g) rfl (e ▸ hb)), by rw [List.length_set]; exact h.len, fun x hx2 => ?_, fun x hx2 => ?_, fun x hx2 b hb => ?_⟩
  · have := (h.row.stored (i * 8 + j) u).1
    rw [flat_set TaskD.cells 8 TaskD.cells_len T i j hi hj u x' hx] at this
    rw [List.length_set]
    exact this
  · rcases hmem hx2 with rfl | hx2
    · rw [hc, hn]
      exact ownsRow_fr (h.cor _ hxi) hF (fun b hb e => row_apart h.row (h.cor _ hxi) (by decide) (k := g) rfl (e ▸ hb))
    · exact ownsRow_fr (h.cor x hx2) hF (fun b hb e => row_apart h.row (h.cor x hx2) (by decide) (k := g) rfl (e ▸ hb))
  · rcases hmem hx2 with rfl | hx2
    · rw [hn]; exact h.nl _ hxi
    · exact h.nl x hx2
  · rcases hmem hx2 with rfl | hx2
    · rw [hc] at hb
      exact h.sep _ hxi b hb
    · exact h.sep x hx2 b hb
end

theorem ownR_set {k : Nat} {sv : Value} {T : List TaskD} {i : Nat} {cap : Nat} {g : Nat} {x' : TaskD} {hi : i < T.length} (hc : x'.cv = (T[i]'hi).cv) {b : Nat} (h : ownR k (.slice (some ⟨g, 0, none⟩) (T.set i x').length cap) sv (T.set i x') b) : ownR k (.slice (some ⟨g, 0, none⟩) T.length cap) sv T b := by
  rcases h with h | h | h | ⟨x, hx, h⟩
  · exact Or.inl h
  · exact Or.inr (Or.inl h)
  · exact Or.inr (Or.inr (Or.inl h))
  · rcases List.mem_or_eq_of_mem_set hx with h1 | rfl
    · exact Or.inr (Or.inr (Or.inr ⟨x, h1, h⟩))
    · exact Or.inr (Or.inr (Or.inr ⟨_, List.getElem_mem hi, by rw [← hc]; exact h⟩))


/-- A weak word on a call that tells a number. -/
def NumPost (w : World) (k n : Nat) (Y : Nat → Prop) (e : Ending) (w' : World) : Prop := ∃ c, e = .returned (.int .i64 c) ∧ RNx w k n Y w'

set_option maxRecDepth 20000 in
set_option maxHeartbeats 1000000 in
theorem rrel51_any (w : World) (k n : Nat) (Y : Nat → Prop) (h : RT w k n Y) (hn : n ≤ 1000) (pid : Int) :
    Calls Try.prog 51 #[.pointer (some ⟨k, 0, none⟩), .int .i64 pid] w (NumPost w k n Y) := by
  have HS := Lib.hid (fun w' (hf : Fr (fun _ => False) w w') => RNx.same h hf)
  obtain ⟨lv, sv, N, T, G, hR, h2, h3, h4, rfl⟩ := h
  have HA := Lib.hid (at66_any w k lv sv N T G hR (by omega) pid)
  have HR := Lib.hid hR
  clear hR
  go_enter Try.func51, Try.ntmps51
  go_wp2_with fail
  refine HA.out.mono ?_
  rintro e w1 ⟨hf, rfl | ⟨i, hi, rfl⟩⟩
  · have HE := Lib.hid (HS.out _ hf)
    go_wp2
    go_ret
    exact ⟨_, rfl, HE.out⟩
  · have hr := HR.out.fr0 hf
    obtain ⟨g, cap, rfl, hc⟩ := task_cell hr.row hi
    have c0 : w1.cell? ⟨k, 0, none⟩ = some (.slice (some ⟨g, 0, none⟩) T.length cap) := hr.blk.cell 0
    have c6 := hc 6 _ (by omega) rfl
    obtain ⟨cur, hcur⟩ := ownsRow_block hr.row (k := g) rfl
    have f6 : w1.frozen? ⟨g, i * 8 + 6, none⟩ = false := Blk.frozen (t := 61) (cs := cur) hcur _
    have HX := Lib.hid (hr.setT hi (j := 6) (by omega) (.int .i64 1) { T[i] with state := 1 } rfl rfl rfl)
    have HF := Lib.hid hf
    have HE := Lib.hid (HS.out _ hf)
    clear hr hc hcur hf
    cases hs : ((T[i]'hi).state != 0) with
    | true =>
      generalize (T[i]'hi).state = st at *
      go_wp2
      go_ret
      exact ⟨_, rfl, HE.out⟩
    | false =>
      have HD := Lib.hid (show RNx w k n (ownR k (.slice (some ⟨g, 0, none⟩) T.length cap) sv T) (w1.setCell ⟨g, i * 8 + 6, none⟩ (.int .i64 1)) from
        ⟨_, ⟨_, sv, N, _, G, HX.out, by rw [List.length_set]; exact h2, h3, h4, rfl⟩, (HF.out.mono (fun _ _ h => h.elim)).setCell (p := ⟨g, i * 8 + 6, none⟩) (Or.inl (Or.inr (Or.inl rfl))) _, fun b hb => Or.inl (ownR_set (x' := { T[i] with state := 1 }) (hi := hi) rfl hb)⟩)
      generalize (T[i]'hi).state = st at *
      go_wp2
      go_ret
      exact ⟨_, rfl, HD.out⟩

end Go.Proofs.Ytomoomopodihhaa
