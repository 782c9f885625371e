/-
  The reference's queue: Due, Set.
-/
import Derived.Test.YtdlpiaglgdafoaaTp
namespace Go.Proofs.Ytdlpiaglgdafoaa
open Go.RowKit Go.Maps

theorem row_apart {w : World} {b b' e e' sz sz' n n' k : Nat} {v v' : Value} {xs xs' : List Value} (h : w.ownsRow b e sz v n xs) (h' : w.ownsRow b' e' sz' v' n' xs') (hne : e ≠ e') (hk : v.ownBlock = some k) : v'.ownBlock ≠ some k := fun hk' => by
  obtain ⟨c, hc⟩ := ownsRow_block h hk
  obtain ⟨c', hc'⟩ := ownsRow_block h' hk'
  rw [hc] at hc'
  cases hc'
  exact hne rfl

def DueR (w : World) (f : KeyD → Bool) (S : List KeyD) (o s i : Value) (wr : World) : Prop :=
  CopyRel w (fun p => !f p) S s i wr ∧ ∃ n : Nat, i = .int .i64 n ∧ n ≤ S.length ∧ wr.ownsRow w.heap.size 3 1 o ((S.take n).filter f).length (idsV ((S.take n).filter f))

theorem dueR_yes {w wr w2 w3 : World} {f : KeyD → Bool} {S : List KeyD} {o o' s : Value} {j : Nat} (hj : j < S.length) (hx : f (S[j]'hj) = true) (hf : Fr (fun _ => False) w wr)
    (hrow : wr.ownsRow w.heap.size 62 2 s ((S.take j).filter fun p => !f p).length (((S.take j).filter fun p => !f p).flatMap cellsP)) (ho : wr.ownsRow w.heap.size 3 1 o ((S.take j).filter f).length (idsV ((S.take j).filter f)))
    (h2 : Fr (fun _ => False) wr w2) (hown : w3.ownsRow w.heap.size 3 1 o' (((S.take j).filter f).length + 1) (idsV ((S.take j).filter f) ++ [.int .i64 (S[j]'hj).2])) (hg : w2.grownBy w3 o.ownBlock) : DueR w f S o' s (.int .i64 (j + 1 : Nat)) w3 := by
  have hs3 : w3.ownsRow w.heap.size 62 2 s ((S.take j).filter fun p => !f p).length (((S.take j).filter fun p => !f p).flatMap cellsP) :=
    ownsRow_fr (ownsRow_fr hrow h2 (fun _ _ h => h)) (Fr.of_grown (S := fun k => o.ownBlock = some k) hg (fun k hk => hk)) (fun k hk hk' => row_apart ho hrow (by decide) hk' hk)
  refine ⟨?_, j + 1, rfl, hj, ?_⟩
  · refine copy_skip hj ((hf.then h2).grown hg (fun k hk => Or.inr (ho.lt k hk).1)) hs3 (by simp [hx])
  · rw [take_filter_succ f hj, if_pos hx, List.length_append]
    unfold idsV at hown ⊢
    rw [List.map_append]
    exact hown
theorem dueR_no {w wr w2 w3 : World} {f : KeyD → Bool} {S : List KeyD} {o s s' : Value} {j : Nat} (hj : j < S.length) (hx : f (S[j]'hj) = false) (hf : Fr (fun _ => False) w wr)
    (hrow : wr.ownsRow w.heap.size 62 2 s ((S.take j).filter fun p => !f p).length (((S.take j).filter fun p => !f p).flatMap cellsP)) (ho : wr.ownsRow w.heap.size 3 1 o ((S.take j).filter f).length (idsV ((S.take j).filter f)))
    (h2 : Fr (fun _ => False) wr w2) (hown : w3.ownsRow w.heap.size 62 2 s' (((S.take j).filter fun p => !f p).length + 1) ((((S.take j).filter fun p => !f p).flatMap cellsP) ++ cellsP (S[j]'hj))) (hg : w2.grownBy w3 s.ownBlock) : DueR w f S o s' (.int .i64 (j + 1 : Nat)) w3 := by
  refine ⟨copy_step hj hf hrow (by simp [hx]) h2 hown hg, j + 1, rfl, hj, ?_⟩
  rw [take_filter_succ f hj, hx]
  have := ownsRow_fr (ownsRow_fr ho h2 (fun _ _ h => h)) (Fr.of_grown (S := fun k => s.ownBlock = some k) hg (fun k hk => hk)) (fun k hk hk' => row_apart hrow ho (by decide) hk' hk)
  simpa using this

/-- What the reference's 'Due' leaves. -/
def RDue (S : List KeyD) (now : Int) (q : Nat) (Y : Nat → Prop) (w : World) (e : Ending) (w' : World) : Prop :=
  ∃ v, e = .returned v ∧ w'.ownsRow w.heap.size 3 1 v (dueN S now).length ((dueN S now).map fun x => .int .i64 x) ∧ RNext w q (dueK S now) Y w'

set_option maxRecDepth 20000 in
set_option maxHeartbeats 4000000 in
theorem due27_any (w : World) (q : Nat) (S : List KeyD) (Y : Nat → Prop) (h : RQ w q S Y) (now : Int) (hl : S.length ≤ 100000) :
    Calls Try.prog 27 #[.pointer (some ⟨q, 0, none⟩), .int .i64 now] w (RDue S now q Y w) := by
  obtain ⟨i0, hi, hz0, hz1, hz2⟩ := info_parts info62
  obtain ⟨j0, gi, gz0, gz1, gz2⟩ := info_parts info3
  obtain ⟨v, hb, hr, rfl⟩ := h
  have HB := Lib.hid hb
  have HR := Lib.hid hr
  obtain ⟨A, cap, rfl⟩ := row_shape hr
  have h0 : DueR w (fun p => decide (p.1 ≤ now)) S (.slice none 0 0) (.slice none 0 0) (.int .i64 (0 : Nat)) w := ⟨⟨0, Nat.zero_le _, rfl, Fr.refl _ _, World.ownsRow_nil _ _ _ _⟩, 0, rfl, Nat.zero_le _, World.ownsRow_nil _ _ _ _⟩
  clear hb hr
  go_enter Try.func27, Try.ntmps27
  go_wp2_with fail
  go_loopw [5, 6, 7] (fun o s i wr => DueR w (fun p => decide (p.1 ≤ now)) S o s i wr) (fun _ _ i _ => S.length - (intOf i).toNat)
  case atStart => exact h0
  case round =>
    obtain ⟨⟨j, hj, rfl, hf, hrow⟩, n, hn, _, ho⟩ := hrel
    obtain rfl : j = n := by
      have : (j : Int) = (n : Int) := by simpa using hn
      omega
    clear hn
    have hb1 := HB.out.fr hf (fun h => h)
    have c0 : wr.cell? ⟨q, 0, none⟩ = some (.slice A S.length cap) := hb1.cell 0
    have f0 := hb1.frozen 0
    obtain ⟨A2, cap2, rfl⟩ := row_shape hrow
    obtain ⟨A3, cap3, rfl⟩ := row_shape ho
    have hle := List.length_filter_le (fun p : KeyD => !decide (p.1 ≤ now)) (S.take j)
    have hle2 := List.length_filter_le (fun p : KeyD => decide (p.1 ≤ now)) (S.take j)
    rw [List.length_take] at hle hle2
    by_cases hlt : j < S.length
    · obtain ⟨g, cp, hv, c1, c2⟩ := pair_cells (ownsRow_fr HR.out hf (fun _ _ h => h)) hlt
      cases hv
      have HYES := Lib.hid (fun hx w2 w3 o' h2 hown hg => dueR_yes (w2 := w2) (w3 := w3) (o' := o') (f := fun p => decide (p.1 ≤ now)) hlt hx hf hrow ho h2 hown hg)
      have HNO := Lib.hid (fun hx w2 w3 s' h2 hown hg => dueR_no (w2 := w2) (w3 := w3) (s' := s') (f := fun p => decide (p.1 ≤ now)) hlt hx hf hrow ho h2 hown hg)
      simp only [cellsP] at HNO
      have hsz := hf.size
      generalize S[j] = x at *
      generalize (List.filter (fun p => !decide (p.1 ≤ now)) (S.take j)).length = n2 at *
      generalize (List.filter (fun p => decide (p.1 ≤ now)) (S.take j)).length = n3 at *
      by_cases hx : x.1 ≤ now
      · have hnw := news_one wr 3 [.int .i64 x.2]
        clear h0 hb1
        go_wp2_with (at_builtin; refine wpList_append_own_at _ rfl _ _ 22 rfl w.heap.size 3 j0 (.int .i64 0) 1 8 Try.underlying22 gi gz0 gz1 gz2 rfl (by decide) _ _ _ rfl (ho.alloc _) ⟨wr.heap.size, 0, none⟩ 1 1 [.int .i64 x.2] rfl rfl hnw (by simp [Value.oneCell']) (by unfold maxLen; omega) (by omega) (by simp only [World.size_alloc]; omega) ?_; intro v' w7 hown1 hgrow1 hne1 hat1; obtain ⟨g', cap1, rfl⟩ := row_succ hown1)
        go_roundw
        case rel =>
          have := HYES.out (decide_eq_true hx) _ _ _ ((Fr.refl _ wr).alloc _) hown1 hgrow1
          simpa using this
        case measure => simp [intOf]; omega
      · have hnw := news_one wr 62 [.int .i64 x.1, .int .i64 x.2]
        clear h0 hb1
        go_wp2_with (at_builtin; refine wpList_append_own_at _ rfl _ _ 38 rfl w.heap.size 62 i0 (.agg #[.int .i64 0, .int .i64 0]) 2 16 Try.underlying38 hi hz0 hz1 hz2 rfl (by decide) _ _ _ rfl (hrow.alloc _) ⟨wr.heap.size, 0, none⟩ 1 1 [.int .i64 x.1, .int .i64 x.2] rfl rfl hnw (by simp [Value.oneCell']) (by unfold maxLen; omega) (by omega) (by simp only [World.size_alloc]; omega) ?_; intro v' w7 hown1 hgrow1 hne1 hat1; obtain ⟨g', cap1, rfl⟩ := row_succ hown1)
        go_roundw
        case rel =>
          have := HNO.out (decide_eq_false hx) _ _ _ ((Fr.refl _ wr).alloc _) hown1 hgrow1
          simpa using this
        case measure => simp [intOf]; omega
    · obtain rfl : j = S.length := by omega
      rw [List.take_length] at hrow hle ho
      have HS := Lib.hid (RQ.store (T := dueK S now) HB.out hf hrow)
      have hq := HB.out.lt
      have ho2 := ownsRow_fr ho ((Fr.refl (fun k => k = q) wr).setCell (p := ⟨q, 0, none⟩) (Or.inl rfl) (.slice A2 (List.filter (fun p => !decide (p.1 ≤ now)) S).length cap2)) (fun k hk e => by have := (ho.lt k hk).1; omega)
      have HO := Lib.hid ho2
      clear h0 hb1 hrow ho ho2
      go_wp2
      go_ret
      refine ⟨_, rfl, ?_, ?_⟩
      · have h9 := HO.out
        unfold dueN
        rw [List.length_map, List.map_map]
        simpa [List.take_length, idsV, Function.comp_def] using h9
      · have h9 := HS.out
        simpa [List.take_length] using h9

end Go.Proofs.Ytdlpiaglgdafoaa
