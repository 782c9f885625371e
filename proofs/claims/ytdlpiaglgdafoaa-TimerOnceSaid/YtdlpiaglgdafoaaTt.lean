/-
  The queue above a block; 'live'.
-/
import Derived.Test.YtdlpiaglgdafoaaTs
namespace Go.Proofs.Ytdlpiaglgdafoaa
open Go.RowKit Go.Maps

/-- The queue, above block B. -/
def TS (w : World) (q B : Nat) (S : List KeyD) : Prop := ∃ X, TQ w q S X ∧ (∀ i, X i → B ≤ i) ∧ B ≤ w.heap.size

section
variable {w w1 : World} {q B : Nat} {S S' : List KeyD} {X Z : Nat → Prop}
theorem TS.fr (h : TS w q B S) (hf : Fr Z w w1) (hZ : ∀ i, Z i → i < B) : TS w1 q B S := by
  obtain ⟨X, h1, h2, h3⟩ := h
  exact ⟨X, h1.fr hf (fun i hi hz => by have := h2 i hi; have := hZ i hz; omega), h2, Nat.le_trans h3 hf.size⟩
theorem TS.fr0 (h : TS w q B S) (hf : Fr (fun _ => False) w w1) : TS w1 q B S := h.fr hf (fun _ h => h.elim)
/-- .. and what is new. -/
theorem TS.new (h : TS w q B S) (hf : Fr (fun i => w.heap.size ≤ i) w w1) : TS w1 q B S := h.fr0 (hf.mono fun i hi h => by omega)
theorem TS.ok (h : TS w q B S) : QOk S := let ⟨_, h, _⟩ := h; h.ok
theorem TS.step (hX : ∀ i, X i → B ≤ i) (hB : B ≤ w.heap.size) (h1 : TNext w q S' X w1) : TS w1 q B S' ∧ Fr (fun i => B ≤ i) w w1 := by
  obtain ⟨X', a1, a2, a3⟩ := h1
  refine ⟨⟨X', a1, fun i hi => ?_, Nat.le_trans hB a2.size⟩, a2.mono (fun i _ h => hX i h)⟩
  rcases a3 i hi with h | h
  · exact hX i h
  · omega
theorem new_ts (w : World) : Calls Try.prog 9 #[] w fun e w' => ∃ q, e = .returned (.pointer (some ⟨q, 0, none⟩)) ∧ TS w' q w.heap.size [] ∧ Fr (fun _ => False) w w' :=
  (new9_any w).mono fun e w' h => by
    obtain ⟨q, X, h1, h2, h3, h4⟩ := h
    exact ⟨q, h1, ⟨X, h2, h4, h3.size⟩, h3⟩
theorem set_ts (h : TS w q B S) (id at_ : Int) (hid : wf64 id) (r : Int) (hr : setN S id at_ = r) (hS : setK S id at_ = S') :
    Calls Try.prog 10 #[.pointer (some ⟨q, 0, none⟩), .int .i64 id, .int .i64 at_] w fun e w' => e = .returned (.int .i64 r) ∧ TS w' q B S' ∧ Fr (fun i => B ≤ i) w w' := by
  obtain ⟨X, h1, h2, h3⟩ := h
  subst hr hS
  exact (set10_any w q S X h1 id at_ hid).mono fun e w' h => ⟨h.1, TS.step h2 h3 h.2⟩
theorem cancel_ts (h : TS w q B S) (id : Int) (hid : wf64 id) (r : Bool) (hr : hasK id S = r) (hS : remK id S = S') :
    Calls Try.prog 12 #[.pointer (some ⟨q, 0, none⟩), .int .i64 id] w fun e w' => e = .returned (.bool r) ∧ TS w' q B S' ∧ Fr (fun i => B ≤ i) w w' := by
  obtain ⟨X, h1, h2, h3⟩ := h
  subst hr hS
  exact (cancel12_any w q S X h1 id hid).mono fun e w' h => ⟨h.1, TS.step h2 h3 h.2⟩
theorem due_ts (h : TS w q B S) (now : Int) (D : List Int) (hD : dueN S now = D) (hS : dueK S now = S') :
    Calls Try.prog 11 #[.pointer (some ⟨q, 0, none⟩), .int .i64 now] w fun e w' => ∃ v, e = .returned v ∧ w'.ownsRow w.heap.size 3 1 v D.length (D.map fun x => .int .i64 x) ∧ TS w' q B S' ∧ Fr (fun i => B ≤ i) w w' := by
  obtain ⟨X, h1, h2, h3⟩ := h
  subst hD hS
  exact (due11_any w q S X h1 now).mono fun e w' h => by
    obtain ⟨v, X', rfl, a1, a2, a3, a4⟩ := h
    exact ⟨v, rfl, a1, TS.step h2 h3 ⟨X', a2, a4, fun i hi => Or.inl (a3 i hi)⟩⟩
theorem next_ts (h : TS w q B S) (a b : Int) (c : Bool) (hn : nextK S = (a, b, c)) :
    Calls Try.prog 13 #[.pointer (some ⟨q, 0, none⟩)] w fun e w' => e = .returned (.tuple #[.int .i64 a, .int .i64 b, .bool c]) ∧ TS w' q B S ∧ Fr (fun _ => False) w w' := by
  obtain ⟨X, h1, h2, h3⟩ := h
  refine (next13_any w q S X h1).mono fun e w' h => ⟨?_, ⟨X, h1.fr0 h.2, h2, Nat.le_trans h3 h.2.size⟩, h.2⟩
  rw [h.1, hn]
theorem at_ts (h : TS w q B S) (id : Int) (hid : wf64 id) (r : Option Int) (hr : atK id S = r) :
    Calls Try.prog 16 #[.pointer (some ⟨q, 0, none⟩), .int .i64 id] w fun e w' => e = .returned (.tuple #[.int .i64 (r.getD 0), .bool r.isSome]) ∧ w = w' := by
  obtain ⟨X, h1, h2, h3⟩ := h
  subst hr
  exact at16_any w q S X h1 id hid
theorem len_ts (h : TS w q B S) (n : Nat) (hn : S.length = n) : Calls Try.prog 14 #[.pointer (some ⟨q, 0, none⟩)] w fun e w' => e = .returned (.int .i64 n) ∧ w = w' := by
  obtain ⟨X, h1, h2, h3⟩ := h
  subst hn
  exact len14_any w q S X h1
end

theorem wfs {n : Int} (h : -1000 ≤ n ∧ n ≤ 1000) : wf64 n := by unfold wf64; omega

theorem two_ints (W : World) (a b : Int) : IntsV (W.alloc (.cells #[.int .i64 a, .int .i64 b] 3)) (.slice (some ⟨W.heap.size, 0, none⟩) 2 2) [a, b] := by
  have hb := Blk.new W 3 #[.int .i64 a, .int .i64 b]
  refine ⟨_, 2, rfl, fun k hk => ⟨W.heap.size, 0, rfl, ?_⟩⟩
  match k with
  | 0 => exact hb.cell 0
  | 1 => exact hb.cell 1
  | k + 2 => simp at hk; omega

set_option maxRecDepth 20000 in
set_option maxHeartbeats 2000000 in
theorem live8_any (w : World) : Calls Try.prog 8 #[] w fun e w' => e = .returned (.bool true) ∧ Fr (fun _ => False) w w' := by
  have HN := Lib.hid (new_ts w)
  go_enter Try.func8, Try.ntmps8
  go_wp2_with fail
  refine HN.out.mono ?_
  rintro e w1 ⟨q, rfl, ht1, hf1⟩
  have C1 := Lib.hid (set_ts ht1 5 9 (wfs (by omega)) 0 (by decide) (S' := [(9, 5)]) (by decide))
  have HF1 := Lib.hid (hf1.mono (S' := fun i => w.heap.size ≤ i) (fun _ _ h => h.elim))
  clear ht1 hf1
  go_wp2_with fail
  refine C1.out.mono ?_
  rintro e w2 ⟨rfl, ht2, hf2⟩
  have C2 := Lib.hid (set_ts ht2 7 3 (wfs (by omega)) 0 (by decide) (S' := [(3, 7), (9, 5)]) (by decide))
  have HF2 := Lib.hid (HF1.out.then hf2)
  clear ht2 hf2
  go_wp2_with fail
  refine C2.out.mono ?_
  rintro e w3 ⟨rfl, ht3, hf3⟩
  have C3 := Lib.hid (set_ts ht3 2 9 (wfs (by omega)) 0 (by decide) (S' := [(3, 7), (9, 2), (9, 5)]) (by decide))
  have HF3 := Lib.hid (HF2.out.then hf3)
  clear ht3 hf3
  go_wp2_with fail
  refine C3.out.mono ?_
  rintro e w4 ⟨rfl, ht4, hf4⟩
  have C4 := Lib.hid (set_ts ht4 7 4 (wfs (by omega)) 0 (by decide) (S' := [(4, 7), (9, 2), (9, 5)]) (by decide))
  have HF4 := Lib.hid (HF3.out.then hf4)
  clear ht4 hf4
  go_wp2_with fail
  refine C4.out.mono ?_
  rintro e w5 ⟨rfl, ht5, hf5⟩
  have C5 := Lib.hid (next_ts ht5 7 4 true (by decide))
  have HF5 := Lib.hid (HF4.out.then hf5)
  clear ht5 hf5
  go_wp2_with fail
  refine C5.out.mono ?_
  rintro e w6 ⟨rfl, ht6, hf6⟩
  have C6 := Lib.hid (set_ts ht6 (-1) 3 (wfs (by omega)) 1 (by decide) (S' := [(4, 7), (9, 2), (9, 5)]) (by decide))
  have HF6 := Lib.hid (HF5.out.then (hf6.mono (fun _ _ h => h.elim)))
  clear ht6 hf6
  go_wp2_with fail
  refine C6.out.mono ?_
  rintro e w7 ⟨rfl, ht7, hf7⟩
  have C7 := Lib.hid (cancel_ts ht7 2 (wfs (by omega)) true (by decide) (S' := [(4, 7), (9, 5)]) (by decide))
  have HF7 := Lib.hid (HF6.out.then hf7)
  clear ht7 hf7
  go_wp2_with fail
  refine C7.out.mono ?_
  rintro e w8 ⟨rfl, ht8, hf8⟩
  have C8 := Lib.hid (cancel_ts ht8 2 (wfs (by omega)) false (by decide) (S' := [(4, 7), (9, 5)]) (by decide))
  have HF8 := Lib.hid (HF7.out.then hf8)
  clear ht8 hf8
  go_wp2_with fail
  refine C8.out.mono ?_
  rintro e w9 ⟨rfl, ht9, hf9⟩
  have C9 := Lib.hid (due_ts ht9 9 [7, 5] (by decide) (S' := []) (by decide))
  have HF9 := Lib.hid (HF8.out.then hf9)
  clear ht9 hf9
  go_wp2_with fail
  refine C9.out.mono ?_
  rintro e w10 ⟨v, rfl, hrow, ht10, hf10⟩
  have hfa : Fr (fun _ => False) w10 (w10.alloc (.cells #[.int .i64 7, .int .i64 5] 3)) := (Fr.refl _ w10).alloc _
  have HF10 := Lib.hid (((HF9.out.then hf10).then (hfa.mono (fun _ _ h => h.elim))))
  have C10 := Lib.hid (same_any _ v _ [7, 5] [7, 5] ((IntsV.of_row hrow).fr0 hfa) (two_ints w10 7 5) (by unfold maxLen; simp) (by unfold maxLen; simp) true (Lib.hid rfl))
  have C11 := Lib.hid (fun W (hf : Fr (fun _ => False) _ W) => len_ts ((ht10.fr0 hfa).fr0 hf) 0 rfl)
  clear hrow ht10 hf10 hfa
  go_wp2_with fail
  refine C10.out.mono ?_
  rintro e w11 ⟨rfl, hf11⟩
  go_wp2_with fail
  refine (C11.out _ hf11).mono ?_
  rintro e w12 ⟨rfl, rfl⟩
  go_wp2
  go_ret
  exact ⟨rfl, ((HF10.out.then (hf11.mono (fun _ _ h => h.elim)))).mono (fun i hi h => by omega)⟩

end Go.Proofs.Ytdlpiaglgdafoaa
