/-
  The queue in memory; New, Len, may, At, Next.
-/
import Derived.Test.YtdlpiaglgdafoaaTh
import Derived.DeepKeys4
namespace Go.Proofs.Ytdlpiaglgdafoaa
open Go.RowKit Go.Maps

theorem wf_lit {n : Int} (h : wf64 n) : (Lit.int .i64 n).wf = true := WalkArith.wf_i64 h
theorem law3 : Keyed Try.prog 3 := int_keyed Try.underlying3
theorem zero53 (w : World) : (zeroValue 53).run Try.prog w = .ok (.pointer none) w := by kernel_rfl
theorem key3 {n : Int} (h : wf64 n) : keyOf Try.prog 3 (.int .i64 n) = some (.int .i64 n) := keyOf_int_mk Try.underlying3 (wf_lit h)
theorem same_int (a b : Int) : (Lit.int .i64 a).sameKey (.int .i64 b) = (a == b) := by
  simp only [Lit.sameKey, Lit.int.injEq, true_and, decide_eq_decide]
  by_cases h : a = b
  · subst h; simp
  · simp [h]
theorem may_wf64 {n : Int} (h : mayB n = true) : wf64 n := by
  have := mayB_wf h
  unfold wf64; omega
def eP (e : EntD) : Lit × Value := (.int .i64 e.2.2, encE e)
def remE (id : Int) (L : List EntD) : List EntD := L.filter fun e => e.2.2 != id

theorem filter_eP (id : Int) (L : List EntD) : (L.map eP).filter (fun p => !p.1.sameKey (.int .i64 id)) = (remE id L).map eP := by
  unfold remE
  rw [List.filter_map]
  congr 1
  apply List.filter_congr
  intro e _
  simp only [Function.comp, eP, same_int]
  rfl

/-- The queue lies in block q: its heap, its map in block m. -/
structure TAt (w : World) (q m : Nat) (L : List EntD) (v : Value) : Prop where
  heap : HAt w 0 q (.map (some m)) L v
  map : MapL Try.prog 3 w m (L.map eP)
  hN : HeapN L L.length

def ownT (q m : Nat) (v : Value) (L : List EntD) (i : Nat) : Prop := i = q ∨ i = m ∨ HS v L i

section
variable {S X : Nat → Prop} {w w' : World} {q m : Nat} {L : List EntD} {v : Value}
theorem TAt.fr (h : TAt w q m L v) (hf : Fr S w w') (hs : ∀ i, ownT q m v L i → ¬ S i) : TAt w' q m L v :=
  ⟨h.heap.fr hf (hs _ (Or.inl rfl)) (fun i hi => hs i (Or.inr (Or.inr hi))), h.map.fr hf (hs _ (Or.inr (Or.inl rfl))), h.hN⟩
theorem TAt.fr0 (h : TAt w q m L v) (hf : Fr (fun _ => False) w w') : TAt w' q m L v := h.fr hf (fun _ _ h => h)
theorem TAt.m_not (h : TAt w q m L v) : m ≠ q ∧ ¬ HS v L m := by
  refine ⟨h.map.ne_blk h.heap.blk, fun hs => ?_⟩
  rcases hs with h1 | ⟨e, he, h1⟩
  · obtain ⟨cur, hc⟩ := ownsRow_block h.heap.row h1
    exact h.map.no_cells hc
  · obtain ⟨k, hk, rfl⟩ := List.mem_iff_getElem.1 he
    exact h.map.ne_blk (h.heap.ent k hk) h1.symm
theorem TAt.lt (h : TAt w q m L v) {i : Nat} (hi : ownT q m v L i) : i < w.heap.size := by
  rcases hi with rfl | rfl | h1 | ⟨e, he, rfl⟩
  · exact h.heap.blk.lt
  · exact h.map.lt
  · exact (h.heap.row.lt i h1).2
  · obtain ⟨k, hk, rfl⟩ := List.mem_iff_getElem.1 he
    exact (h.heap.ent k hk).lt
theorem TAt.c0 (h : TAt w q m L v) : w.cell? ⟨q, 0, none⟩ = some v := h.heap.blk.cell 0
theorem TAt.c1 (h : TAt w q m L v) : w.cell? ⟨q, 1, none⟩ = some (.map (some m)) := h.heap.blk.cell 1

/-- The map, asked. -/
theorem TAt.look (h : TAt w q m L v) {id : Int} (hid : wf64 id) (c : Bool) :
    (∃ k, ∃ hk : k < L.length, (L[k]'hk).2.2 = id ∧ (Instr.lookup 48 (.map (some m)) (.int .i64 id) c).run Try.prog w = .ok (if c then .tuple #[encE (L[k]'hk), .bool true] else encE (L[k]'hk)) w) ∨
    ((∀ e ∈ L, e.2.2 ≠ id) ∧ (Instr.lookup 48 (.map (some m)) (.int .i64 id) c).run Try.prog w = .ok (if c then .tuple #[.pointer none, .bool false] else .pointer none) w) := by
  rcases h.map.look law3 Try.underlying48 (zero53 w) (key3 hid) c with ⟨u, h1, h2⟩ | ⟨h1, h2⟩
  · obtain ⟨e, he, hee⟩ := List.mem_map.1 h1
    obtain ⟨k, hk, rfl⟩ := List.mem_iff_getElem.1 he
    simp only [eP, Prod.mk.injEq, Lit.int.injEq, true_and] at hee
    obtain ⟨e1, e2⟩ := hee
    subst e2
    exact Or.inl ⟨k, hk, e1, h2⟩
  · refine Or.inr ⟨fun e he e1 => ?_, h2⟩
    exact absurd (by rw [← e1]; rfl) (h1 _ (List.mem_map_of_mem he))
end

/-- The queue holds the deadlines of S, in the blocks X. -/
def TQ (w : World) (q : Nat) (S : List KeyD) (X : Nat → Prop) : Prop := ∃ m L v, TAt w q m L v ∧ (L.map (·.2)).Perm S ∧ QOk S ∧ X = ownT q m v L

section
variable {Y X : Nat → Prop} {w w' : World} {q : Nat} {S : List KeyD}
theorem TQ.ok (h : TQ w q S X) : QOk S := let ⟨_, _, _, _, _, h, _⟩ := h; h
theorem TQ.lt (h : TQ w q S X) {i : Nat} (hi : X i) : i < w.heap.size := by
  obtain ⟨m, L, v, h, _, _, rfl⟩ := h
  exact h.lt hi
theorem TQ.fr (h : TQ w q S X) (hf : Fr Y w w') (hs : ∀ i, X i → ¬ Y i) : TQ w' q S X := by
  obtain ⟨m, L, v, h, h2, h3, rfl⟩ := h
  exact ⟨m, L, v, h.fr hf hs, h2, h3, rfl⟩
theorem TQ.fr0 (h : TQ w q S X) (hf : Fr (fun _ => False) w w') : TQ w' q S X := h.fr hf (fun _ _ h => h)
end

/-- What a call leaves of the queue. -/
def TNext (w : World) (q : Nat) (S' : List KeyD) (X : Nat → Prop) (w' : World) : Prop := ∃ X', TQ w' q S' X' ∧ Fr X w w' ∧ ∀ i, X' i → X i ∨ w.heap.size ≤ i

set_option maxHeartbeats 400000 in
theorem new9_any (w : World) : Calls Try.prog 9 #[] w fun e w' => ∃ q X, e = .returned (.pointer (some ⟨q, 0, none⟩)) ∧ TQ w' q [] X ∧ Fr (fun _ => False) w w' ∧ ∀ i, X i → w.heap.size ≤ i := by
  have hr := @run_makeMap Try.prog
  go_enter Try.func9, Try.ntmps9
  go_wp2
  go_ret
  refine ⟨_, ownT (w.heap.size + 1) w.heap.size (.slice none 0 0) [], rfl, ⟨w.heap.size, [], .slice none 0 0, ⟨⟨?_, ?_, ?_, ?_, Nat.zero_le _⟩, ?_, ?_⟩, List.Perm.refl _, QOk.nil, rfl⟩, ((Fr.refl _ w).alloc _).alloc _, ?_⟩
  · have := Blk.new (w.alloc (.map #[] 0)) 52 #[.slice none 0 0, .map (some w.heap.size)]
    simpa using this
  · exact World.ownsRow_nil _ _ _ _
  · intro k hk; cases hk
  · intro e he; cases he
  · exact (MapL.made w Try.prog 3).alloc _
  · intro k _ hk; cases hk
  · intro i hi
    rcases hi with rfl | rfl | h1 | ⟨e, he, _⟩
    · omega
    · omega
    · cases h1
    · cases he

set_option maxHeartbeats 400000 in
theorem may20_any (n : Int) (w : World) : Calls Try.prog 20 #[.int .i64 n] w fun e w' => e = .returned (.bool (mayB n)) ∧ w = w' := by
  by_cases h1 : 0 ≤ n
  · by_cases h2 : n ≤ 1099511627776
    · have e : mayB n = true := decide_eq_true ⟨h1, h2⟩
      rw [e]
      go_enter Try.func20, Try.ntmps20
      go_wp2
      go_ret
      exact ⟨rfl, rfl⟩
    · have e : mayB n = false := decide_eq_false (fun h => h2 h.2)
      rw [e]
      go_enter Try.func20, Try.ntmps20
      go_wp2
      go_ret
      exact ⟨rfl, rfl⟩
  · have e : mayB n = false := decide_eq_false (fun h => h1 h.1)
    rw [e]
    go_enter Try.func20, Try.ntmps20
    go_wp2
    go_ret
    exact ⟨rfl, rfl⟩

set_option maxHeartbeats 400000 in
theorem len14_any (w : World) (q : Nat) (S : List KeyD) (X : Nat → Prop) (h : TQ w q S X) : Calls Try.prog 14 #[.pointer (some ⟨q, 0, none⟩)] w fun e w' => e = .returned (.int .i64 S.length) ∧ w = w' := by
  obtain ⟨m, L, v, h, hp, _, rfl⟩ := h
  have hl : S.length = L.length := by rw [← hp.length_eq, List.length_map]
  have c0 := h.c0
  obtain ⟨A, cap, rfl⟩ := h.heap.shape
  rw [hl]
  clear h hp hl
  go_enter Try.func14, Try.ntmps14
  go_wp2
  go_ret
  exact ⟨rfl, rfl⟩

end Go.Proofs.Ytdlpiaglgdafoaa
