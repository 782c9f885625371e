/-
  Rows of a slice's cells: what they keep, and how they are read.
-/
import Derived.Test.YtomoomopodihhaaMem
import Derived.Deep.AppendLies
namespace Go.Proofs.Ytomoomopodihhaa
open Go.RowKit Go.Maps

theorem flat_len {α : Type} (f : α → List Value) (n : Nat) (hf : ∀ a, (f a).length = n) (L : List α) : (L.flatMap f).length = L.length * n := by
  induction L with
  | nil => simp
  | cons a r ih => simp [List.flatMap_cons, hf, ih, Nat.add_mul]; omega

theorem flat_get {α : Type} (f : α → List Value) (n : Nat) (hf : ∀ a, (f a).length = n) : ∀ (L : List α) (i j : Nat) (hi : i < L.length), j < n → (L.flatMap f)[i * n + j]? = (f (L[i]'hi))[j]?
  | [], i, j, hi, _ => by simp at hi
  | a :: r, 0, j, hi, hj => by
    rw [List.flatMap_cons, Nat.zero_mul, Nat.zero_add, List.getElem?_append_left (by rw [hf]; exact hj)]
    rfl
  | a :: r, i + 1, j, hi, hj => by
    have hi' : i < r.length := by simpa using hi
    rw [List.flatMap_cons, List.getElem?_append_right (by rw [hf, Nat.add_mul]; omega), hf, show (i + 1) * n + j - n = i * n + j by rw [Nat.add_mul]; omega, flat_get f n hf r i j hi' hj]
    rfl

section
variable {S : Nat → Prop} {w w' : World} {base base' : Nat} {e : TypeId} {size : Nat} {v : Value} {n : Nat} {xs : List Value}

theorem ownsRow_fr (h : w.ownsRow base e size v n xs) (hf : Fr S w w') (hs : ∀ k, v.ownBlock = some k → ¬ S k) : w'.ownsRow base e size v n xs := by
  obtain ⟨h1, h2⟩ := h
  refine ⟨h1, ?_⟩
  rcases h2 with h2 | ⟨g, cap, cur, rfl, hg, hb, h3⟩
  · exact Or.inl h2
  · exact Or.inr ⟨g, cap, cur, rfl, hg, hf.heap hb (hs g rfl), h3⟩

theorem ownsRow_block (h : w.ownsRow base e size v n xs) {k : Nat} (hk : v.ownBlock = some k) : ∃ cur, w.heap[k]? = some (.cells cur e (0, 0)) := by
  obtain ⟨h1, h2⟩ := h
  rcases h2 with ⟨rfl, _⟩ | ⟨g, cap, cur, rfl, hg, hb, h3⟩
  · cases hk
  · cases hk
    exact ⟨cur, hb⟩

theorem row_succ {k : Nat} (h : w.ownsRow base e size v (k + 1) xs) : ∃ g cap, v = .slice (some ⟨g, 0, none⟩) (k + 1) cap := by
  rcases h.2 with ⟨_, h0⟩ | ⟨g, cap, _, rfl, _⟩
  · omega
  · exact ⟨g, cap, rfl⟩

theorem row_shape (h : w.ownsRow base e size v n xs) : ∃ A cap, v = .slice A n cap := by
  obtain ⟨_, h2⟩ := h
  rcases h2 with ⟨rfl, h3⟩ | ⟨g, cap, cur, rfl, _⟩
  · exact ⟨none, 0, by rw [h3]⟩
  · exact ⟨_, cap, rfl⟩

theorem ownsRow_base_a' (h : w.ownsRow base' e size v n xs) (hb : base ≤ base') : w.ownsRow base e size v n xs := by
  obtain ⟨h1, h2⟩ := h
  refine ⟨h1, ?_⟩
  rcases h2 with h2 | ⟨g, cap, cur, rfl, hg, h3⟩
  · exact Or.inl h2
  · exact Or.inr ⟨g, cap, cur, rfl, by omega, h3⟩

theorem ownsRow_set {r : Nat} {t : TypeId} {cs : Array Value} (h : w.ownsRow base e size v n xs) (hr : Blk w r t cs) (ht : t ≠ e) (i : Nat) (u : Value) : (w.setCell ⟨r, i, none⟩ u).ownsRow base e size v n xs := by
  refine ownsRow_fr h ((Fr.refl (fun k => k = r) w).setCell (Or.inl rfl) u) (fun k hk e1 => ?_)
  obtain ⟨cur, hc⟩ := ownsRow_block h hk
  subst e1
  unfold Blk at hr
  rw [hr] at hc
  cases hc
  exact ht rfl

/-- A cell of a row that is n times 'size' wide. -/
theorem row_cell (h : w.ownsRow base e size v n xs) {g : Nat} {cap : Nat} (hv : v = .slice (some ⟨g, 0, none⟩) n cap) {i : Nat} {u : Value} (hi : xs[i]? = some u) : w.cell? ⟨g, i, none⟩ = some u := by
  obtain ⟨h1, h2⟩ := h
  subst hv
  rcases h2 with ⟨h3, _⟩ | ⟨g', cap', cur, h3, hg, hb, h4⟩
  · cases h3
  · cases h3
    have hlt : i < n * size := by rw [← h1]; exact (List.getElem?_eq_some_iff.1 hi).1
    rw [cell_of_row w g i cur e (0, 0) hb]
    have e1 : cur.toList[i]? = (cur.toList.take (n * size))[i]? := by rw [List.getElem?_take, if_pos hlt]
    rw [← Array.getElem?_toList, e1, h4.2.2.2, hi]
end

/-- The elements of a row whose elements are told by f, each n cells wide. -/
theorem row_elem {α : Type} (f : α → List Value) {w : World} {base : Nat} {e : TypeId} {size : Nat} {v : Value} (hf : ∀ a, (f a).length = size) {L : List α} (h : w.ownsRow base e size v L.length (L.flatMap f)) {k : Nat} (hk : k < L.length) :
    ∃ g cap, v = .slice (some ⟨g, 0, none⟩) L.length cap ∧ ∀ j u, j < size → (f (L[k]'hk))[j]? = some u → w.cell? ⟨g, k * size + j, none⟩ = some u := by
  rcases h.2 with ⟨rfl, h3⟩ | ⟨g, cap, cur, rfl, _⟩
  · omega
  · exact ⟨g, cap, rfl, fun j u hj hu => row_cell h rfl (by rw [flat_get f size hf L k j hk hj]; exact hu)⟩

theorem flat_one {α : Type} (f : α → Value) (L : List α) : L.map f = L.flatMap fun a => [f a] := by
  induction L with
  | nil => rfl
  | cons a r ih => simp [List.flatMap_cons, ih]

theorem row_elem1 {α : Type} (f : α → Value) {w : World} {base : Nat} {e : TypeId} {v : Value} {L : List α} (h : w.ownsRow base e 1 v L.length (L.map f)) {k : Nat} (hk : k < L.length) :
    ∃ g cap, v = .slice (some ⟨g, 0, none⟩) L.length cap ∧ w.cell? ⟨g, k, none⟩ = some (f (L[k]'hk)) := by
  rcases h.2 with ⟨rfl, h3⟩ | ⟨g, cap, cur, rfl, _⟩
  · omega
  · exact ⟨g, cap, rfl, row_cell h rfl (by rw [List.getElem?_map, List.getElem?_eq_getElem hk]; rfl)⟩

/-- Two cells that one make of a slice lays. -/
theorem news_one (W : World) (t : TypeId) (L : List Value) : ∀ j u, L[j]? = some u → (W.alloc (.cells L.toArray t)).cell? ((⟨W.heap.size, 0, none⟩ : Addr).add j) = some u :=
  World.news_of_block (heap_alloc_new W _)

end Go.Proofs.Ytomoomopodihhaa
