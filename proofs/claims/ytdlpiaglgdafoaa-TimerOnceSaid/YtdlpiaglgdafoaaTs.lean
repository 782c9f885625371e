/-
  'does': a call on both.
-/
import Derived.Test.YtdlpiaglgdafoaaTr
import Derived.Deep.RegionHeld3
namespace Go.Proofs.Ytdlpiaglgdafoaa
open Go.RowKit Go.Maps

/-- Both queues, above block B. -/
def DSt (w : World) (q k B : Nat) (S : List KeyD) : Prop := ∃ X Y, TQ w q S X ∧ RQ w k S Y ∧ (∀ i, X i → ¬ Y i) ∧ (∀ i, X i → B ≤ i) ∧ (∀ i, Y i → B ≤ i)

section
variable {w w1 w2 : World} {q k B : Nat} {S S' : List KeyD} {X Y : Nat → Prop}
theorem DSt.fr0 (h : DSt w q k B S) (hf : Fr (fun _ => False) w w1) : DSt w1 q k B S := by
  obtain ⟨X, Y, h1, h2, h3, h4, h5⟩ := h
  exact ⟨X, Y, h1.fr0 hf, h2.fr0 hf, h3, h4, h5⟩
theorem DSt.ok (h : DSt w q k B S) : QOk S := let ⟨_, _, h, _⟩ := h; h.ok
theorem TNext.frX (h : TNext w q S' X w1) : Fr X w w1 := let ⟨_, _, h, _⟩ := h; h
theorem RNext.frY (h : RNext w k S' Y w1) : Fr Y w w1 := let ⟨_, _, h, _⟩ := h; h
theorem TNext.ref (hT : TQ w q S X) (hR : RQ w k S Y) (hXY : ∀ i, X i → ¬ Y i) (h1 : TNext w q S' X w1) : RQ w1 k S Y := by
  obtain ⟨X', h2, h3, _⟩ := h1
  exact hR.fr h3 (fun i hi h => hXY i h hi)
theorem DSt.two (hT : TQ w q S X) (hR : RQ w k S Y) (hXY : ∀ i, X i → ¬ Y i) (hXB : ∀ i, X i → B ≤ i) (hYB : ∀ i, Y i → B ≤ i) (hB : B ≤ w.heap.size) (h1 : TNext w q S' X w1) (h2 : RNext w1 k S' Y w2) : DSt w2 q k B S' ∧ Fr (fun i => B ≤ i) w w2 := by
  obtain ⟨X', a1, a2, a3⟩ := h1
  obtain ⟨Y', b1, b2, b3⟩ := h2
  have hs := a2.size
  have hX' : ∀ i, X' i → ¬ Y i := fun i hi hy => by
    rcases a3 i hi with h | h
    · exact hXY i h hy
    · have := hR.lt hy; omega
  refine ⟨⟨X', Y', a1.fr b2 hX', b1, fun i hi hy => ?_, fun i hi => ?_, fun i hi => ?_⟩, (a2.mono (S' := fun i => B ≤ i) (fun i _ h => hXB i h)).trans b2 (fun i _ h => hYB i h)⟩
  · rcases b3 i hy with h | h
    · exact hX' i hi h
    · have := a1.lt hi; omega
  · rcases a3 i hi with h | h
    · exact hXB i h
    · omega
  · rcases b3 i hi with h | h
    · exact hYB i h
    · omega
theorem DSt.same (hT : TQ w q S X) (hR : RQ w k S Y) (hXY : ∀ i, X i → ¬ Y i) (hXB : ∀ i, X i → B ≤ i) (hYB : ∀ i, Y i → B ≤ i) : DSt w q k B S := ⟨X, Y, hT, hR, hXY, hXB, hYB⟩
end

structure OpT where
  do_ : Int
  id : Int
  at_ : Int

def OpT.cells (o : OpT) : List Value := [.int .i64 o.do_, .int .i64 o.id, .int .i64 o.at_]
def OpT.val (o : OpT) : Value := .agg #[.int .i64 o.do_, .int .i64 o.id, .int .i64 o.at_]
def doesS (S : List KeyD) (o : OpT) : List KeyD := if o.do_ = 0 then setK S o.id o.at_ else if o.do_ = 1 then remK o.id S else if o.do_ = 2 then dueK S o.at_ else S

theorem QOk.does {S : List KeyD} (h : QOk S) (o : OpT) : QOk (doesS S o) := by
  unfold doesS
  split
  · exact h.set _ _
  · split
    · exact h.rem _
    · split
      · exact h.due _
      · exact h

theorem bx {W : World} {g : Nat} {a0 a1 a2 : Value} (h : Blk W g 43 #[a0, a1, a2]) : W.cell? ⟨g, 1, none⟩ = some a1 ∧ W.cell? ⟨g, 2, none⟩ = some a2 := ⟨h.cell 1, h.cell 2⟩

def DoesPost (w : World) (q k B : Nat) (S : List KeyD) (o : OpT) (e : Ending) (w' : World) : Prop := e = .returned (.bool true) ∧ DSt w' q k B (doesS S o) ∧ Fr (fun i => B ≤ i) w w'

set_option maxRecDepth 20000 in
set_option maxHeartbeats 2000000 in
theorem does15_set (w : World) (q k B : Nat) (S : List KeyD) (h : DSt w q k B S) (hB : B ≤ w.heap.size) (id at_ : Int) (hid : wf64 id) :
    Calls Try.prog 15 #[.pointer (some ⟨q, 0, none⟩), .pointer (some ⟨k, 0, none⟩), (OpT.mk 0 id at_).val] w (DoesPost w q k B S ⟨0, id, at_⟩) := by
  have hf0 := (((Fr.refl (fun _ => False) w).alloc (.cells #[.int .i64 0, .int .i64 id, .int .i64 at_] 43)).drew)
  have HX := Lib.hid ((Blk.new w 43 #[.int .i64 0, .int .i64 id, .int .i64 at_]).fr (Fr.refl (fun _ => False) _).drew (fun h => h))
  have hl := h.ok.le
  have hok := h.ok
  obtain ⟨X, Y, hT0, hR0, hXY, hXB, hYB⟩ := h
  have hT := hT0.fr0 hf0
  have hR := hR0.fr0 hf0
  have HF := Lib.hid hf0
  have hsz := hf0.size
  have C10 := Lib.hid (set10_any _ q S X hT id at_ hid)
  have HR1 := Lib.hid (fun w1 h1 => TNext.ref (S' := setK S id at_) (w1 := w1) hT hR hXY h1)
  have C25 := Lib.hid (fun W (hW : RQ W k S Y) => set25_any W k S Y hW hok id at_)
  have HFIN := Lib.hid (fun w1 w2 h1 h2 => DSt.two (S' := setK S id at_) (w1 := w1) (w2 := w2) hT hR hXY hXB hYB (Nat.le_trans hB hsz) h1 h2)
  have HXl := Lib.hid (fun i (hi : X i) => hT0.lt hi)
  have HYl := Lib.hid (fun i (hi : Y i) => hR0.lt hi)
  clear hT hR hT0 hR0 hXY hXB hYB hf0 hok
  simp only [OpT.val]
  generalize setN S id at_ = r at *
  go_enter Try.func15, Try.ntmps15
  go_wp2
  go_region_held3 (fun W => W.cell? ⟨w.heap.size, 1, none⟩ = some (.int .i64 id) ∧ W.cell? ⟨w.heap.size, 2, none⟩ = some (.int .i64 at_))
    (first | exact bx HX.out | exact bx HX1.out | exact bx HX2.out)
    (first
      | (go_at_call 10; refine C10.out.mono ?_; rintro e w1 ⟨rfl, ht1⟩; have HT1 := Lib.hid ht1; have HX1 := Lib.hid (HX.out.fr ht1.frX (fun hi => by have := HXl.out _ hi; omega)))
      | (go_at_call 25; refine (C25.out _ (HR1.out _ HT1.out)).mono ?_; rintro e w2 ⟨rfl, ht2⟩; have HT2 := Lib.hid ht2; have HX2 := Lib.hid (HX1.out.fr ht2.frY (fun hi => by have := HYl.out _ hi; omega))))
  go_wp2
  go_ret
  obtain ⟨p1, p2⟩ := HFIN.out _ _ HT1.out HT2.out
  exact ⟨rfl, p1, (HF.out.mono (S' := fun i => B ≤ i) (fun _ _ h => h.elim)).then p2⟩

set_option maxRecDepth 20000 in
set_option maxHeartbeats 2000000 in
theorem does15_cancel (w : World) (q k B : Nat) (S : List KeyD) (h : DSt w q k B S) (hB : B ≤ w.heap.size) (id at_ : Int) (hid : wf64 id) :
    Calls Try.prog 15 #[.pointer (some ⟨q, 0, none⟩), .pointer (some ⟨k, 0, none⟩), (OpT.mk 1 id at_).val] w (DoesPost w q k B S ⟨1, id, at_⟩) := by
  have hf0 := (((Fr.refl (fun _ => False) w).alloc (.cells #[.int .i64 1, .int .i64 id, .int .i64 at_] 43)).drew)
  have HX := Lib.hid ((Blk.new w 43 #[.int .i64 1, .int .i64 id, .int .i64 at_]).fr (Fr.refl (fun _ => False) _).drew (fun h => h))
  have hl := h.ok.le
  have hok := h.ok
  obtain ⟨X, Y, hT0, hR0, hXY, hXB, hYB⟩ := h
  have hT := hT0.fr0 hf0
  have hR := hR0.fr0 hf0
  have HF := Lib.hid hf0
  have hsz := hf0.size
  have C10 := Lib.hid (cancel12_any _ q S X hT id hid)
  have HR1 := Lib.hid (fun w1 h1 => TNext.ref (S' := remK id S) (w1 := w1) hT hR hXY h1)
  have C25 := Lib.hid (fun W (hW : RQ W k S Y) => cancel26_any W k S Y hW id (by omega) hok.ids)
  have HFIN := Lib.hid (fun w1 w2 h1 h2 => DSt.two (S' := remK id S) (w1 := w1) (w2 := w2) hT hR hXY hXB hYB (Nat.le_trans hB hsz) h1 h2)
  have HXl := Lib.hid (fun i (hi : X i) => hT0.lt hi)
  have HYl := Lib.hid (fun i (hi : Y i) => hR0.lt hi)
  clear hT hR hT0 hR0 hXY hXB hYB hf0 hok
  simp only [OpT.val]
  generalize hasK id S = r at *
  go_enter Try.func15, Try.ntmps15
  go_wp2
  go_region_held3 (fun W => W.cell? ⟨w.heap.size, 1, none⟩ = some (.int .i64 id))
    (first | exact (bx HX.out).1 | exact (bx HX1.out).1 | exact (bx HX2.out).1)
    (first
      | (go_at_call 12; refine C10.out.mono ?_; rintro e w1 ⟨rfl, ht1⟩; have HT1 := Lib.hid ht1; have HX1 := Lib.hid (HX.out.fr ht1.frX (fun hi => by have := HXl.out _ hi; omega)))
      | (go_at_call 26; refine (C25.out _ (HR1.out _ HT1.out)).mono ?_; rintro e w2 ⟨rfl, ht2⟩; have HT2 := Lib.hid ht2; have HX2 := Lib.hid (HX1.out.fr ht2.frY (fun hi => by have := HYl.out _ hi; omega))))
  go_wp2
  go_ret
  obtain ⟨p1, p2⟩ := HFIN.out _ _ HT1.out HT2.out
  exact ⟨by simp, p1, (HF.out.mono (S' := fun i => B ≤ i) (fun _ _ h => h.elim)).then p2⟩

set_option maxRecDepth 20000 in
set_option maxHeartbeats 2000000 in
theorem does15_due (w : World) (q k B : Nat) (S : List KeyD) (h : DSt w q k B S) (hB : B ≤ w.heap.size) (id at_ : Int) :
    Calls Try.prog 15 #[.pointer (some ⟨q, 0, none⟩), .pointer (some ⟨k, 0, none⟩), (OpT.mk 2 id at_).val] w (DoesPost w q k B S ⟨2, id, at_⟩) := by
  have hf0 := (((Fr.refl (fun _ => False) w).alloc (.cells #[.int .i64 2, .int .i64 id, .int .i64 at_] 43)).drew)
  have HX := Lib.hid ((Blk.new w 43 #[.int .i64 2, .int .i64 id, .int .i64 at_]).fr (Fr.refl (fun _ => False) _).drew (fun h => h))
  have hl := h.ok.le
  obtain ⟨X, Y, hT0, hR0, hXY, hXB, hYB⟩ := h
  have hT := hT0.fr0 hf0
  have hR := hR0.fr0 hf0
  have HF := Lib.hid hf0
  have hsz := hf0.size
  have C11 := Lib.hid (due11_any _ q S X hT at_)
  have HR1 := Lib.hid (fun w1 h1 => TNext.ref (S' := dueK S at_) (w1 := w1) hT hR hXY h1)
  have C27 := Lib.hid (fun W (hW : RQ W k S Y) => due27_any W k S Y hW at_ (by omega))
  have HFIN := Lib.hid (fun w1 w2 h1 h2 => DSt.two (S' := dueK S at_) (w1 := w1) (w2 := w2) hT hR hXY hXB hYB (Nat.le_trans hB hsz) h1 h2)
  have HXl := Lib.hid (fun i (hi : X i) => hT0.lt hi)
  have HYl := Lib.hid (fun i (hi : Y i) => hR0.lt hi)
  have hdl : (dueN S at_).length ≤ maxLen := by
    unfold dueN
    rw [List.length_map]
    have := List.length_filter_le (fun p : KeyD => decide (p.1 ≤ at_)) S
    unfold maxLen
    omega
  clear hT hR hT0 hR0 hXY hXB hYB hf0
  simp only [OpT.val]
  go_enter Try.func15, Try.ntmps15
  go_wp2
  go_region_held3 (fun W => W.cell? ⟨w.heap.size, 2, none⟩ = some (.int .i64 at_))
    (first | exact (bx HX.out).2 | exact (bx HX1.out).2 | exact (bx HX2.out).2 | exact (bx HX3.out).2)
    (first
      | (go_at_call 11; refine C11.out.mono ?_; rintro e w1 ⟨v1, X1, rfl, hrow1, ht1, hx1, hf1⟩; have HT1 := Lib.hid (show TNext _ q (dueK S at_) X w1 from ⟨X1, ht1, hf1, fun i hi => Or.inl (hx1 i hi)⟩); have HROW1 := Lib.hid hrow1; clear hrow1 ht1 hx1; have HX1 := Lib.hid (HX.out.fr hf1 (fun hi => by have := HXl.out _ hi; omega)))
      | (go_at_call 27; refine (C27.out _ (HR1.out _ HT1.out)).mono ?_; rintro e w2 ⟨v2, rfl, hrow2, ht2⟩; have HT2 := Lib.hid ht2; have HX2 := Lib.hid (HX1.out.fr ht2.frY (fun hi => by have := HYl.out _ hi; omega)); have HS19 := Lib.hid (same_any w2 v1 v2 _ _ (IntsV.of_row (by simpa using HROW1.out) |>.fr ht2.frY (fun g hg hy => by have h1 := (HROW1.out.lt g hg).1; have h2 := HYl.out _ hy; have : w.heap.size ≤ (w.alloc (.cells #[.int .i64 2, .int .i64 id, .int .i64 at_] 43)).drew.heap.size := hsz; omega)) (IntsV.of_row (by simpa using hrow2)) hdl hdl true (Lib.hid (by simp))); clear hrow2)
      | (go_at_call 19; refine HS19.out.mono ?_; rintro e w3 ⟨rfl, hf3⟩; have HX3 := Lib.hid (HX2.out.fr hf3 (fun h => h))))
  go_wp2
  go_ret
  obtain ⟨p1, p2⟩ := HFIN.out _ _ HT1.out HT2.out
  exact ⟨rfl, p1.fr0 hf3, ((HF.out.mono (S' := fun i => B ≤ i) (fun _ _ h => h.elim)).then p2).then (hf3.mono (fun _ _ h => h.elim))⟩

set_option maxHeartbeats 2000000 in
theorem does15_any (w : World) (q k B : Nat) (S : List KeyD) (h : DSt w q k B S) (hB : B ≤ w.heap.size) (o : OpT) (hid : wf64 o.id) :
    Calls Try.prog 15 #[.pointer (some ⟨q, 0, none⟩), .pointer (some ⟨k, 0, none⟩), o.val] w (DoesPost w q k B S o) := by
  obtain ⟨do_, id, at_⟩ := o
  by_cases h0 : do_ = 0
  · subst h0; exact does15_set w q k B S h hB id at_ hid
  by_cases h1 : do_ = 1
  · subst h1; exact does15_cancel w q k B S h hB id at_ hid
  by_cases h2 : do_ = 2
  · subst h2; exact does15_due w q k B S h hB id at_
  have e : doesS S ⟨do_, id, at_⟩ = S := by unfold doesS; rw [if_neg h0, if_neg h1, if_neg h2]
  have HP : Hid (∀ w', Fr (fun _ => False) w w' → DoesPost w q k B S ⟨do_, id, at_⟩ (.returned (.bool true)) w') := Lib.hid fun w' hf => ⟨rfl, by rw [e]; exact h.fr0 hf, hf.mono (fun _ _ h => h.elim)⟩
  have b0 : (do_ == 0) = false := by simpa using h0
  have b1 : (do_ == 1) = false := by simpa using h1
  have b2 : (do_ == 2) = false := by simpa using h2
  clear h
  simp only [OpT.val]
  go_enter Try.func15, Try.ntmps15
  go_wp2
  go_ret
  exact HP.out _ ((Fr.refl _ w).alloc _)

end Go.Proofs.Ytdlpiaglgdafoaa
