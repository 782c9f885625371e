/-
  The reference's queue: Cancel, Due.
-/
import Derived.Test.YtdlpiaglgdafoaaTo
namespace Go.Proofs.Ytdlpiaglgdafoaa
open Go.RowKit Go.Maps

theorem take_filter_succ {α : Type} (f : α → Bool) {L : List α} {j : Nat} (h : j < L.length) : (L.take (j + 1)).filter f = (L.take j).filter f ++ if f L[j] then [L[j]] else [] := by
  rw [List.take_succ_eq_append_getElem h, List.filter_append]
  cases hf : f L[j] <;> simp [hf]

def CopyRel (w : World) (f : KeyD → Bool) (S : List KeyD) (s i : Value) (wr : World) : Prop :=
  ∃ j : Nat, j ≤ S.length ∧ i = .int .i64 j ∧ Fr (fun _ => False) w wr ∧ wr.ownsRow w.heap.size 62 2 s ((S.take j).filter f).length (((S.take j).filter f).flatMap cellsP)

theorem copy_step {w wr w2 w3 : World} {f : KeyD → Bool} {S : List KeyD} {s s' : Value} {j : Nat} (hj : j < S.length) (hf : Fr (fun _ => False) w wr) (hrow : wr.ownsRow w.heap.size 62 2 s ((S.take j).filter f).length (((S.take j).filter f).flatMap cellsP)) (hx : f (S[j]'hj) = true)
    (h2 : Fr (fun _ => False) wr w2) (hown : w3.ownsRow w.heap.size 62 2 s' (((S.take j).filter f).length + 1) ((((S.take j).filter f).flatMap cellsP) ++ cellsP (S[j]'hj))) (hg : w2.grownBy w3 s.ownBlock) :
    CopyRel w f S s' (.int .i64 (j + 1 : Nat)) w3 := by
  refine ⟨j + 1, hj, rfl, (hf.then h2).grown hg (fun k hk => Or.inr (hrow.lt k hk).1), ?_⟩
  rw [take_filter_succ f hj, if_pos hx, List.length_append, List.flatMap_append, List.flatMap_singleton]
  exact hown
theorem copy_skip {w wr : World} {f : KeyD → Bool} {S : List KeyD} {s : Value} {j : Nat} (hj : j < S.length) (hf : Fr (fun _ => False) w wr) (hrow : wr.ownsRow w.heap.size 62 2 s ((S.take j).filter f).length (((S.take j).filter f).flatMap cellsP)) (hx : f (S[j]'hj) = false) :
    CopyRel w f S s (.int .i64 (j + 1 : Nat)) wr := by
  refine ⟨j + 1, hj, rfl, hf, ?_⟩
  rw [take_filter_succ f hj, hx]
  simpa using hrow

/-- The list, set anew. -/
theorem RQ.store {w wr : World} {q : Nat} {v s : Value} {T : List KeyD} (hb : Blk w q 40 #[v]) (hf : Fr (fun _ => False) w wr) (hrow : wr.ownsRow w.heap.size 62 2 s T.length (T.flatMap cellsP)) :
    RNext w q T (fun i => i = q ∨ v.ownBlock = some i) (wr.setCell ⟨q, 0, none⟩ s) := by
  have hq := hb.lt
  refine ⟨fun i => i = q ∨ s.ownBlock = some i, ⟨s, (hb.fr hf (fun h => h)).set_ 0 s, ?_, rfl⟩, ((hf.mono (S' := fun i => i = q ∨ v.ownBlock = some i) (fun _ _ h => h.elim)).setCell (p := ⟨q, 0, none⟩) (Or.inl (Or.inl rfl)) _), ?_⟩
  · exact ownsRow_base_a' (ownsRow_fr hrow ((Fr.refl (fun k => k = q) wr).setCell (p := ⟨q, 0, none⟩) (Or.inl rfl) _) (fun k hk e => by have := (hrow.lt k hk).1; omega)) (Nat.zero_le _)
  · rintro i (rfl | hi)
    · exact Or.inl (Or.inl rfl)
    · exact Or.inr (hrow.lt i hi).1

theorem remK_lt {S : List KeyD} (hn : (S.map (·.2)).Nodup) (id : Int) : decide ((remK id S).length < S.length) = hasK id S := by
  cases h : hasK id S with
  | true => have := remK_len hn h; exact decide_eq_true (by omega)
  | false => rw [remK_none h]; exact decide_eq_false (by omega)

set_option maxRecDepth 20000 in
set_option maxHeartbeats 2000000 in
theorem cancel26_any (w : World) (q : Nat) (S : List KeyD) (Y : Nat → Prop) (h : RQ w q S Y) (id : Int) (hl : S.length ≤ 100000) (hn : (S.map (·.2)).Nodup) :
    Calls Try.prog 26 #[.pointer (some ⟨q, 0, none⟩), .int .i64 id] w fun e w' => e = .returned (.bool (hasK id S)) ∧ RNext w q (remK id S) Y w' := by
  obtain ⟨i0, hi, hz0, hz1, hz2⟩ := info_parts info62
  obtain ⟨v, hb, hr, rfl⟩ := h
  have HB := Lib.hid hb
  have HR := Lib.hid hr
  have HLT := Lib.hid (remK_lt hn id)
  obtain ⟨A, cap, rfl⟩ := row_shape hr
  have h0 : CopyRel w (fun p => p.2 != id) S (.slice none 0 0) (.int .i64 (0 : Nat)) w := ⟨0, Nat.zero_le _, rfl, Fr.refl _ _, World.ownsRow_nil _ _ _ _⟩
  clear hb hr hn
  go_enter Try.func26, Try.ntmps26
  go_wp2_with fail
  go_loopw [5, 6] (fun s i wr => CopyRel w (fun p => p.2 != id) S s i wr) (fun _ i _ => S.length - (intOf i).toNat)
  case atStart => exact h0
  case round =>
    obtain ⟨j, hj, rfl, hf, hrow⟩ := hrel
    have hb1 := HB.out.fr hf (fun h => h)
    have c0 : wr.cell? ⟨q, 0, none⟩ = some (.slice A S.length cap) := hb1.cell 0
    have f0 := hb1.frozen 0
    obtain ⟨A2, cap2, rfl⟩ := row_shape hrow
    have hle := List.length_filter_le (fun p : KeyD => p.2 != id) (S.take j)
    rw [List.length_take] at hle
    by_cases hlt : j < S.length
    · obtain ⟨g, cp, hv, c1, c2⟩ := pair_cells (ownsRow_fr HR.out hf (fun _ _ h => h)) hlt
      cases hv
      have HST := Lib.hid (fun hx w2 w3 s' h2 hown hg => copy_step (w2 := w2) (w3 := w3) (s' := s') (f := fun p => p.2 != id) hlt hf hrow hx h2 hown hg)
      have HSK := Lib.hid (fun hx => copy_skip (f := fun p => p.2 != id) hlt hf hrow hx)
      simp only [cellsP] at HST
      have hsz := hf.size
      generalize S[j] = x at *
      generalize (List.filter (fun p => p.2 != id) (S.take j)).length = n at *
      by_cases hx : (x.2 != id) = true
      · have hnw := news_one wr 62 [.int .i64 x.1, .int .i64 x.2]
        clear h0 hb1
        go_wp2_with (at_builtin; refine wpList_append_own_at _ rfl _ _ 38 rfl w.heap.size 62 i0 (.agg #[.int .i64 0, .int .i64 0]) 2 16 Try.underlying38 hi hz0 hz1 hz2 rfl (by decide) _ _ _ rfl (hrow.alloc _) ⟨wr.heap.size, 0, none⟩ 1 1 [.int .i64 x.1, .int .i64 x.2] rfl rfl hnw (by simp [Value.oneCell']) (by unfold maxLen; omega) (by omega) (by simp only [World.size_alloc]; omega) ?_; intro v' w7 hown1 hgrow1 hne1 hat1; obtain ⟨g', cap1, rfl⟩ := row_succ hown1)
        go_roundw
        case rel =>
          have := HST.out hx _ _ _ ((Fr.refl _ wr).alloc _) hown1 hgrow1
          simpa using this
        case measure => simp [intOf]; omega
      · have hx : (x.2 != id) = false := by simpa using hx
        clear h0 hb1
        go_wp2
        go_roundw
        case rel =>
          have := HSK.out hx
          simpa using this
        case measure => simp [intOf]; omega
    · obtain rfl : j = S.length := by omega
      rw [List.take_length] at hrow hle
      have HS := Lib.hid (RQ.store (T := remK id S) HB.out hf hrow)
      have hlt2 := HLT.out
      unfold remK at hlt2
      clear h0 hb1 hrow
      have HLT2 := Lib.hid hlt2
      go_wp2
      go_ret
      refine ⟨?_, HS.out⟩
      rw [← HLT2.out]
      simp

end Go.Proofs.Ytdlpiaglgdafoaa
