/-
  'does': a call on both tables.
-/
import Derived.Test.YtomoomopodihhaaPr
import Derived.Deep.RegionHeld3
namespace Go.Proofs.Ytomoomopodihhaa
open Go.RowKit Go.Maps

/-- Both tables, in blocks of B. -/
def DSt (w : World) (t k n : Nat) (B : Nat → Prop) (K : List (TaskD × Int)) (last : Int) : Prop := ∃ X Y, PT w t K last X ∧ RT w k n Y ∧ (∀ i, X i → ¬ Y i) ∧ (∀ i, X i → B i) ∧ (∀ i, Y i → B i)

section
variable {w w1 w2 : World} {t k n n' : Nat} {B : Nat → Prop} {K K' : List (TaskD × Int)} {last last' : Int} {X Y S : Nat → Prop}
theorem RT.lt (h : RT w k n Y) {i : Nat} (hi : Y i) : i < w.heap.size := by
  obtain ⟨lv, sv, N, T, G, h1, h2, h3, h4, rfl⟩ := h
  exact h1.lt hi
theorem RT.fr (h : RT w k n Y) (hf : Fr S w w1) (hs : ∀ i, Y i → ¬ S i) : RT w1 k n Y := by
  obtain ⟨lv, sv, N, T, G, h1, h2, h3, h4, rfl⟩ := h
  exact ⟨lv, sv, N, T, G, h1.fr hf hs, h2, h3, h4, rfl⟩
theorem RT.fr0 (h : RT w k n Y) (hf : Fr (fun _ => False) w w1) : RT w1 k n Y := h.fr hf (fun _ _ h => h)
theorem RT.self (h : RT w k n Y) : Y k := by
  obtain ⟨lv, sv, N, T, G, h1, h2, h3, h4, rfl⟩ := h
  exact Or.inl rfl
theorem DSt.fr0 (h : DSt w t k n B K last) (hf : Fr (fun _ => False) w w1) : DSt w1 t k n B K last := by
  obtain ⟨X, Y, h1, h2, h3, h4, h5⟩ := h
  exact ⟨X, Y, h1.fr0 hf, h2.fr0 hf, h3, h4, h5⟩
/-- The tables stay where they are: what is made meanwhile may be spared. -/
theorem DSt.spare (h : DSt w t k n B K last) (hf : Fr (fun _ => False) w w1) : DSt w1 t k n (fun i => (B i ∧ i < w.heap.size) ∨ w1.heap.size ≤ i) K last := by
  obtain ⟨X, Y, h1, h2, h3, h4, h5⟩ := h
  exact ⟨X, Y, h1.fr0 hf, h2.fr0 hf, h3, fun i hi => Or.inl ⟨h4 i hi, h1.lt hi⟩, fun i hi => Or.inl ⟨h5 i hi, h2.lt hi⟩⟩
theorem DSt.mono {B' : Nat → Prop} (h : DSt w t k n B K last) (hb : ∀ i, B i → B' i) : DSt w t k n B' K last := by
  obtain ⟨X, Y, h1, h2, h3, h4, h5⟩ := h
  exact ⟨X, Y, h1, h2, h3, fun i hi => hb i (h4 i hi), fun i hi => hb i (h5 i hi)⟩
theorem DSt.frB {Z : Nat → Prop} (h : DSt w t k n B K last) (hf : Fr Z w w1) (hZ : ∀ i, B i → ¬ Z i) : DSt w1 t k n B K last := by
  obtain ⟨X, Y, h1, h2, h3, h4, h5⟩ := h
  exact ⟨X, Y, h1.fr hf (fun i hi => hZ i (h4 i hi)), h2.fr hf (fun i hi => hZ i (h5 i hi)), h3, h4, h5⟩
theorem DSt.up (h : DSt w t k n B K last) : DSt w t k (n + 1) B K last := by
  obtain ⟨X, Y, h1, ⟨lv, sv, N, T, G, g1, g2, g3, g4, g5⟩, h3, h4, h5⟩ := h
  exact ⟨X, Y, h1, ⟨lv, sv, N, T, G, g1, by omega, g3, by omega, g5⟩, h3, h4, h5⟩
theorem PNx.frX (h : PNx w t K' last' X w1) : Fr X w w1 := let ⟨_, _, h, _⟩ := h; h
theorem RNx.frY (h : RNx w k n Y w1) : Fr Y w w1 := let ⟨_, _, h, _⟩ := h; h
theorem PNx.ref (hR : RT w k n Y) (hXY : ∀ i, X i → ¬ Y i) (h1 : PNx w t K' last' X w1) : RT w1 k n Y :=
  hR.fr h1.frX (fun i hi h => hXY i h hi)
theorem DSt.two (hR : RT w k n Y) (hXY : ∀ i, X i → ¬ Y i) (hXB : ∀ i, X i → B i) (hYB : ∀ i, Y i → B i) (hB : ∀ i, w.heap.size ≤ i → B i) (h1 : PNx w t K' last' X w1) (h2 : RNx w1 k n' Y w2) : DSt w2 t k n' B K' last' ∧ Fr B w w2 := by
  obtain ⟨X', a1, a2, a3⟩ := h1
  obtain ⟨Y', b1, b2, b3⟩ := h2
  have hs := a2.size
  have hX' : ∀ i, X' i → ¬ Y i := fun i hi hy => by
    rcases a3 i hi with h | h
    · exact hXY i h hy
    · have := hR.lt hy; omega
  refine ⟨⟨X', Y', a1.fr b2 hX', b1, fun i hi hy => ?_, fun i hi => ?_, fun i hi => ?_⟩, (a2.mono (S' := B) (fun i _ h => hXB i h)).trans b2 (fun i _ h => hYB i h)⟩
  · rcases b3 i hy with h | h
    · exact hX' i hi h
    · have := a1.lt hi; omega
  · rcases a3 i hi with h | h
    · exact hXB i h
    · exact hB i h
  · rcases b3 i hi with h | h
    · exact hYB i h
    · exact hB i (Nat.le_trans hs h)
end

structure OpP where
  do_ : Int
  pid : Int
  n : Int
  x : TaskD

def OpP.cells (o : OpP) : List Value := .int .i64 o.do_ :: .int .i64 o.pid :: .int .i64 o.n :: o.x.cells
def OpP.val (o : OpP) : Value := .agg #[.int .i64 o.do_, .int .i64 o.pid, .int .i64 o.n, .int .i64 o.x.pid, .int .i64 o.x.job, .int .i64 o.x.epoch, .int .i64 o.x.step, .int .i64 o.x.rank, o.x.cv, .int .i64 o.x.state, .int .i64 o.x.code]

def doesK (K : List (TaskD × Int)) (last : Int) (o : OpP) : List (TaskD × Int) :=
  if o.do_ = 0 then spnK K last o.x else if o.do_ = 1 then relK K o.pid else if o.do_ = 2 then sgnK K o.pid o.n else if o.do_ = 3 then extK K o.pid o.n else if o.do_ = 4 then reapK K o.pid else K
def doesL (K : List (TaskD × Int)) (last : Int) (o : OpP) : Int := if o.do_ = 0 then spnL K last o.x else last

/-- An operation as_ it is handed in, its cores outside of B. -/
structure OpOk (w : World) (B : Nat → Prop) (o : OpP) : Prop where
  pid : wf64 o.pid
  cor : CoresOk w o.x.cv o.x.ns
  low : 0 < o.x.ns.length → ∀ g, o.x.cv.ownBlock = some g → ¬ B g

theorem OpOk.fr {S B : Nat → Prop} {w w' : World} {o : OpP} (h : OpOk w B o) (hf : Fr S w w') (hs : ∀ i, ¬ B i → ¬ S i) : OpOk w' B o := ⟨h.pid, h.cor.frL hf (fun h0 g hg => hs g (h.low h0 g hg)), h.low⟩

theorem bx2 {W : World} {g : Nat} {a0 a1 a2 a3 a4 a5 a6 a7 a8 a9 b0 : Value} (h : Blk W g 63 #[a0, a1, a2, a3, a4, a5, a6, a7, a8, a9, b0]) : W.cell? ⟨g, 1, none⟩ = some a1 ∧ W.cell? ⟨g, 2, none⟩ = some a2 := ⟨h.cell 1, h.cell 2⟩
theorem bx8 {W : World} {g : Nat} {a0 a1 a2 a3 a4 a5 a6 a7 a8 a9 b0 : Value} (h : Blk W g 63 #[a0, a1, a2, a3, a4, a5, a6, a7, a8, a9, b0]) :
    W.cell? ⟨g, 3, none⟩ = some a3 ∧ W.cell? ⟨g, 4, none⟩ = some a4 ∧ W.cell? ⟨g, 5, none⟩ = some a5 ∧ W.cell? ⟨g, 6, none⟩ = some a6 ∧ W.cell? ⟨g, 7, none⟩ = some a7 ∧ W.cell? ⟨g, 8, none⟩ = some a8 ∧ W.cell? ⟨g, 9, none⟩ = some a9 ∧ W.cell? ⟨g, 10, none⟩ = some b0 :=
  ⟨h.cell 3, h.cell 4, h.cell 5, h.cell 6, h.cell 7, h.cell 8, h.cell 9, h.cell 10⟩

def DoesPost (w : World) (t k n : Nat) (B : Nat → Prop) (K : List (TaskD × Int)) (last : Int) (o : OpP) (e : Ending) (w' : World) : Prop := ∃ b, e = .returned (.bool b) ∧ DSt w' t k (n + 1) B (doesK K last o) (doesL K last o) ∧ Fr B w w'


set_option maxRecDepth 20000 in
set_option maxHeartbeats 2000000 in
theorem does35_rel (w : World) (t k n : Nat) (B : Nat → Prop) (K : List (TaskD × Int)) (last : Int) (h : DSt w t k n B K last) (hB : ∀ i, w.heap.size ≤ i → B i) (hn : n ≤ 1000) (pid nn : Int) (x : TaskD) (ho : OpOk w B ⟨1, pid, nn, x⟩) (hl : last < 100000) :
    Calls Try.prog 35 #[.pointer (some ⟨t, 0, none⟩), .pointer (some ⟨k, 0, none⟩), (OpP.mk 1 pid nn x).val] w (DoesPost w t k n B K last ⟨1, pid, nn, x⟩) := by
  obtain ⟨xp, xj, xe, xs, xr, xc, xn, xt, xo⟩ := x
  have hf0 := ((Fr.refl (fun _ => False) w).alloc (.cells #[.int .i64 1, .int .i64 pid, .int .i64 nn, .int .i64 xp, .int .i64 xj, .int .i64 xe, .int .i64 xs, .int .i64 xr, xc, .int .i64 xt, .int .i64 xo] 63)).drew
  have HX := Lib.hid ((Blk.new w 63 #[.int .i64 1, .int .i64 pid, .int .i64 nn, .int .i64 xp, .int .i64 xj, .int .i64 xe, .int .i64 xs, .int .i64 xr, xc, .int .i64 xt, .int .i64 xo]).fr (Fr.refl (fun _ => False) _).drew (fun h => h))
  have hid : wf64 pid := ho.pid
  have hco : CoresOk w xc xn := ho.cor
  have hlow : 0 < xn.length → ∀ g, xc.ownBlock = some g → ¬ B g := ho.low
  obtain ⟨X, Y, hT0, hR0, hXY, hXB, hYB⟩ := h
  have hT := hT0.fr0 hf0
  have hR := hR0.fr0 hf0
  have HF := Lib.hid hf0
  have hsz := hf0.size
  have HXl := Lib.hid (fun i (hi : X i) => hT0.lt hi)
  have HYl := Lib.hid (fun i (hi : Y i) => hR0.lt hi)
  have C1 := Lib.hid (release41_any _ t K last X hT pid hid)
  have HR1 := Lib.hid (fun w1 h1 => PNx.ref (K' := relK K pid) (last' := last) (t := t) (w1 := w1) hR hXY h1)
  have C2 := Lib.hid (fun W (hW : RT W k n Y) => rrel51_any W k n Y hW hn pid)
  have HFIN := Lib.hid (fun w1 w2 h1 (h2 : RNx w1 k n Y w2) => DSt.two (t := t) (K' := relK K pid) (last' := last) (w1 := w1) (w2 := w2) hR hXY hXB hYB (fun i hi => hB i (Nat.le_trans hsz hi)) h1 h2.up)
  clear hT hR hT0 hR0 hXY hXB hYB hf0 hco hlow ho
  simp only [OpP.val, TaskD.val]
  generalize relN K pid = r at *
  go_enter Try.func35, Try.ntmps35
  go_wp2
  go_region_held3 (fun W => W.cell? ⟨w.heap.size, 1, none⟩ = some (.int .i64 pid))
    (first | exact (bx2 HX.out).1 | exact (bx2 HX1.out).1 | exact (bx2 HX2.out).1)
    (first
      | (go_at_call 41; refine C1.out.mono ?_; rintro e w1 ⟨rfl, ht1⟩; have HT1 := Lib.hid ht1; have HX1 := Lib.hid (HX.out.fr ht1.frX (fun hi => by have := HXl.out _ hi; omega)))
      | (go_at_call 51; refine (C2.out _ (HR1.out _ HT1.out)).mono ?_; rintro e w2 ⟨c2, rfl, ht2⟩; have HT2 := Lib.hid ht2; have HX2 := Lib.hid (HX1.out.fr ht2.frY (fun hi => by have := HYl.out _ hi; omega))))
  go_wp2
  go_ret
  obtain ⟨p1, p2⟩ := HFIN.out _ _ HT1.out HT2.out
  exact ⟨_, rfl, p1, (HF.out.mono (S' := B) (fun _ _ h => h.elim)).then p2⟩

set_option maxRecDepth 20000 in
set_option maxHeartbeats 2000000 in
theorem does35_sig (w : World) (t k n : Nat) (B : Nat → Prop) (K : List (TaskD × Int)) (last : Int) (h : DSt w t k n B K last) (hB : ∀ i, w.heap.size ≤ i → B i) (hn : n ≤ 1000) (pid nn : Int) (x : TaskD) (ho : OpOk w B ⟨2, pid, nn, x⟩) (hl : last < 100000) :
    Calls Try.prog 35 #[.pointer (some ⟨t, 0, none⟩), .pointer (some ⟨k, 0, none⟩), (OpP.mk 2 pid nn x).val] w (DoesPost w t k n B K last ⟨2, pid, nn, x⟩) := by
  obtain ⟨xp, xj, xe, xs, xr, xc, xn, xt, xo⟩ := x
  have hf0 := ((Fr.refl (fun _ => False) w).alloc (.cells #[.int .i64 2, .int .i64 pid, .int .i64 nn, .int .i64 xp, .int .i64 xj, .int .i64 xe, .int .i64 xs, .int .i64 xr, xc, .int .i64 xt, .int .i64 xo] 63)).drew
  have HX := Lib.hid ((Blk.new w 63 #[.int .i64 2, .int .i64 pid, .int .i64 nn, .int .i64 xp, .int .i64 xj, .int .i64 xe, .int .i64 xs, .int .i64 xr, xc, .int .i64 xt, .int .i64 xo]).fr (Fr.refl (fun _ => False) _).drew (fun h => h))
  have hid : wf64 pid := ho.pid
  have hco : CoresOk w xc xn := ho.cor
  have hlow : 0 < xn.length → ∀ g, xc.ownBlock = some g → ¬ B g := ho.low
  obtain ⟨X, Y, hT0, hR0, hXY, hXB, hYB⟩ := h
  have hT := hT0.fr0 hf0
  have hR := hR0.fr0 hf0
  have HF := Lib.hid hf0
  have hsz := hf0.size
  have HXl := Lib.hid (fun i (hi : X i) => hT0.lt hi)
  have HYl := Lib.hid (fun i (hi : Y i) => hR0.lt hi)
  have C1 := Lib.hid (signal42_any _ t K last X hT pid hid nn)
  have HR1 := Lib.hid (fun w1 h1 => PNx.ref (K' := sgnK K pid nn) (last' := last) (t := t) (w1 := w1) hR hXY h1)
  have C2 := Lib.hid (fun W (hW : RT W k n Y) => rsig52_any W k n Y hW hn pid nn)
  have HFIN := Lib.hid (fun w1 w2 h1 (h2 : RNx w1 k n Y w2) => DSt.two (t := t) (K' := sgnK K pid nn) (last' := last) (w1 := w1) (w2 := w2) hR hXY hXB hYB (fun i hi => hB i (Nat.le_trans hsz hi)) h1 h2.up)
  clear hT hR hT0 hR0 hXY hXB hYB hf0 hco hlow ho
  simp only [OpP.val, TaskD.val]
  generalize sgnN K pid nn = r at *
  go_enter Try.func35, Try.ntmps35
  go_wp2
  go_region_held3 (fun W => W.cell? ⟨w.heap.size, 1, none⟩ = some (.int .i64 pid) ∧ W.cell? ⟨w.heap.size, 2, none⟩ = some (.int .i64 nn))
    (first | exact bx2 HX.out | exact bx2 HX1.out | exact bx2 HX2.out)
    (first
      | (go_at_call 42; refine C1.out.mono ?_; rintro e w1 ⟨rfl, ht1⟩; have HT1 := Lib.hid ht1; have HX1 := Lib.hid (HX.out.fr ht1.frX (fun hi => by have := HXl.out _ hi; omega)))
      | (go_at_call 52; refine (C2.out _ (HR1.out _ HT1.out)).mono ?_; rintro e w2 ⟨c2, rfl, ht2⟩; have HT2 := Lib.hid ht2; have HX2 := Lib.hid (HX1.out.fr ht2.frY (fun hi => by have := HYl.out _ hi; omega))))
  go_wp2
  go_ret
  obtain ⟨p1, p2⟩ := HFIN.out _ _ HT1.out HT2.out
  exact ⟨_, rfl, p1, (HF.out.mono (S' := B) (fun _ _ h => h.elim)).then p2⟩

set_option maxRecDepth 20000 in
set_option maxHeartbeats 2000000 in
theorem does35_ext (w : World) (t k n : Nat) (B : Nat → Prop) (K : List (TaskD × Int)) (last : Int) (h : DSt w t k n B K last) (hB : ∀ i, w.heap.size ≤ i → B i) (hn : n ≤ 1000) (pid nn : Int) (x : TaskD) (ho : OpOk w B ⟨3, pid, nn, x⟩) (hl : last < 100000) :
    Calls Try.prog 35 #[.pointer (some ⟨t, 0, none⟩), .pointer (some ⟨k, 0, none⟩), (OpP.mk 3 pid nn x).val] w (DoesPost w t k n B K last ⟨3, pid, nn, x⟩) := by
  obtain ⟨xp, xj, xe, xs, xr, xc, xn, xt, xo⟩ := x
  have hf0 := ((Fr.refl (fun _ => False) w).alloc (.cells #[.int .i64 3, .int .i64 pid, .int .i64 nn, .int .i64 xp, .int .i64 xj, .int .i64 xe, .int .i64 xs, .int .i64 xr, xc, .int .i64 xt, .int .i64 xo] 63)).drew
  have HX := Lib.hid ((Blk.new w 63 #[.int .i64 3, .int .i64 pid, .int .i64 nn, .int .i64 xp, .int .i64 xj, .int .i64 xe, .int .i64 xs, .int .i64 xr, xc, .int .i64 xt, .int .i64 xo]).fr (Fr.refl (fun _ => False) _).drew (fun h => h))
  have hid : wf64 pid := ho.pid
  have hco : CoresOk w xc xn := ho.cor
  have hlow : 0 < xn.length → ∀ g, xc.ownBlock = some g → ¬ B g := ho.low
  obtain ⟨X, Y, hT0, hR0, hXY, hXB, hYB⟩ := h
  have hT := hT0.fr0 hf0
  have hR := hR0.fr0 hf0
  have HF := Lib.hid hf0
  have hsz := hf0.size
  have HXl := Lib.hid (fun i (hi : X i) => hT0.lt hi)
  have HYl := Lib.hid (fun i (hi : Y i) => hR0.lt hi)
  have C1 := Lib.hid (exit44_any _ t K last X hT pid hid nn)
  have HR1 := Lib.hid (fun w1 h1 => PNx.ref (K' := extK K pid nn) (last' := last) (t := t) (w1 := w1) hR hXY h1)
  have C2 := Lib.hid (fun W (hW : RT W k n Y) => rext53_any W k n Y hW hn pid nn)
  have HFIN := Lib.hid (fun w1 w2 h1 (h2 : RNx w1 k n Y w2) => DSt.two (t := t) (K' := extK K pid nn) (last' := last) (w1 := w1) (w2 := w2) hR hXY hXB hYB (fun i hi => hB i (Nat.le_trans hsz hi)) h1 h2.up)
  clear hT hR hT0 hR0 hXY hXB hYB hf0 hco hlow ho
  simp only [OpP.val, TaskD.val]
  generalize extN K pid nn = r at *
  go_enter Try.func35, Try.ntmps35
  go_wp2
  go_region_held3 (fun W => W.cell? ⟨w.heap.size, 1, none⟩ = some (.int .i64 pid) ∧ W.cell? ⟨w.heap.size, 2, none⟩ = some (.int .i64 nn))
    (first | exact bx2 HX.out | exact bx2 HX1.out | exact bx2 HX2.out)
    (first
      | (go_at_call 44; refine C1.out.mono ?_; rintro e w1 ⟨rfl, ht1⟩; have HT1 := Lib.hid ht1; have HX1 := Lib.hid (HX.out.fr ht1.frX (fun hi => by have := HXl.out _ hi; omega)))
      | (go_at_call 53; refine (C2.out _ (HR1.out _ HT1.out)).mono ?_; rintro e w2 ⟨c2, rfl, ht2⟩; have HT2 := Lib.hid ht2; have HX2 := Lib.hid (HX1.out.fr ht2.frY (fun hi => by have := HYl.out _ hi; omega))))
  go_wp2
  go_ret
  obtain ⟨p1, p2⟩ := HFIN.out _ _ HT1.out HT2.out
  exact ⟨_, rfl, p1, (HF.out.mono (S' := B) (fun _ _ h => h.elim)).then p2⟩

set_option maxRecDepth 20000 in
set_option maxHeartbeats 2000000 in
theorem does35_spawn (w : World) (t k n : Nat) (B : Nat → Prop) (K : List (TaskD × Int)) (last : Int) (h : DSt w t k n B K last) (hB : ∀ i, w.heap.size ≤ i → B i) (hn : n ≤ 1000) (pid nn : Int) (x : TaskD) (ho : OpOk w B ⟨0, pid, nn, x⟩) (hl : last < 100000) :
    Calls Try.prog 35 #[.pointer (some ⟨t, 0, none⟩), .pointer (some ⟨k, 0, none⟩), (OpP.mk 0 pid nn x).val] w (DoesPost w t k n B K last ⟨0, pid, nn, x⟩) := by
  obtain ⟨xp, xj, xe, xs, xr, xc, xn, xt, xo⟩ := x
  have hf0 := ((Fr.refl (fun _ => False) w).alloc (.cells #[.int .i64 0, .int .i64 pid, .int .i64 nn, .int .i64 xp, .int .i64 xj, .int .i64 xe, .int .i64 xs, .int .i64 xr, xc, .int .i64 xt, .int .i64 xo] 63))
  have HX := Lib.hid ((Blk.new w 63 #[.int .i64 0, .int .i64 pid, .int .i64 nn, .int .i64 xp, .int .i64 xj, .int .i64 xe, .int .i64 xs, .int .i64 xr, xc, .int .i64 xt, .int .i64 xo]))
  have hid : wf64 pid := ho.pid
  have hco : CoresOk w xc xn := ho.cor
  have hlow : 0 < xn.length → ∀ g, xc.ownBlock = some g → ¬ B g := ho.low
  obtain ⟨X, Y, hT0, hR0, hXY, hXB, hYB⟩ := h
  have hT := hT0.fr0 hf0
  have hR := hR0.fr0 hf0
  have HF := Lib.hid hf0
  have hsz := hf0.size
  have HXl := Lib.hid (fun i (hi : X i) => hT0.lt hi)
  have HYl := Lib.hid (fun i (hi : Y i) => hR0.lt hi)
  have hxX : 0 < xn.length → ∀ g, xc.ownBlock = some g → ¬ X g := fun h0 g hg hi => hlow h0 g hg (hXB g hi)
  have hxK : 0 < xn.length → ∀ g, xc.ownBlock = some g → g ≠ k := fun h0 g hg e => hlow h0 g hg (e ▸ hYB k hR0.self)
  have C1 := Lib.hid (spawn37_any _ t K last X hT ⟨xp, xj, xe, xs, xr, xc, xn, xt, xo⟩ (hco.fr0 hf0) hxX hl)
  have C2 := Lib.hid (fun w1 (h1 : PNx _ t (spnK K last ⟨xp, xj, xe, xs, xr, xc, xn, xt, xo⟩) (spnL K last ⟨xp, xj, xe, xs, xr, xc, xn, xt, xo⟩) X w1) => rspawn50_any w1 k n Y (PNx.ref hR hXY h1) hn ⟨xp, xj, xe, xs, xr, xc, xn, xt, xo⟩ ((hco.fr0 hf0).frL h1.frX hxX) hxK)
  have HFIN := Lib.hid (fun w1 w2 h1 (h2 : RNx w1 k (n + 1) Y w2) => DSt.two (t := t) (K' := spnK K last ⟨xp, xj, xe, xs, xr, xc, xn, xt, xo⟩) (last' := spnL K last ⟨xp, xj, xe, xs, xr, xc, xn, xt, xo⟩) (w1 := w1) (w2 := w2) hR hXY hXB hYB (fun i hi => hB i (Nat.le_trans hsz hi)) h1 h2)
  obtain ⟨y3, y4, y5, y6, y7, y8, y9, y10⟩ := bx8 HX.out
  clear hT hR hT0 hR0 hXY hXB hYB hf0 hco hlow ho hxX hxK
  simp only [OpP.val, TaskD.val] at *
  generalize (spnN K last ⟨xp, xj, xe, xs, xr, xc, xn, xt, xo⟩).1 = r1 at *
  generalize (spnN K last ⟨xp, xj, xe, xs, xr, xc, xn, xt, xo⟩).2 = r2 at *
  go_enter Try.func35, Try.ntmps35
  go_wp2_with fail
  refine C1.out.mono ?_
  rintro e w1 ⟨rfl, ht1⟩
  have HT1 := Lib.hid ht1
  have hx1 := HX.out.fr ht1.frX (fun hi => by have := HXl.out _ hi; omega)
  clear y3 y4 y5 y6 y7 y8 y9 y10
  obtain ⟨y3, y4, y5, y6, y7, y8, y9, y10⟩ := bx8 hx1
  clear hx1 ht1
  go_wp2_with fail
  refine (C2.out _ HT1.out).mono ?_
  rintro e w2 ⟨a2, b2, rfl, ht2⟩
  have HT2 := Lib.hid ht2
  clear ht2
  cases hq : (r1 == a2) with
  | true =>
    go_wp2
    go_ret
    obtain ⟨p1, p2⟩ := HFIN.out _ _ HT1.out HT2.out
    exact ⟨_, rfl, p1, (HF.out.mono (S' := B) (fun _ _ h => h.elim)).then p2⟩
  | false =>
    go_wp2
    go_ret
    obtain ⟨p1, p2⟩ := HFIN.out _ _ HT1.out HT2.out
    exact ⟨_, rfl, p1, (HF.out.mono (S' := B) (fun _ _ h => h.elim)).then p2⟩

theorem RNx.pre {w w0 w' : World} {k n : Nat} {Y : Nat → Prop} (hf : Fr (fun _ => False) w w0) (h : RNx w0 k n Y w') : RNx w k n Y w' := by
  obtain ⟨Y', h1, h2, h3⟩ := h
  refine ⟨Y', h1, (hf.mono (S' := Y) (fun _ _ h => h.elim)).then h2, fun i hi => ?_⟩
  have := hf.size
  rcases h3 i hi with h | h
  · exact Or.inl h
  · right; omega

set_option maxRecDepth 20000 in
set_option maxHeartbeats 2000000 in
theorem does35_reap (w : World) (t k n : Nat) (B : Nat → Prop) (K : List (TaskD × Int)) (last : Int) (h : DSt w t k n B K last) (hB : ∀ i, w.heap.size ≤ i → B i) (hn : n ≤ 1000) (pid nn : Int) (x : TaskD) (ho : OpOk w B ⟨4, pid, nn, x⟩) (hl : last < 100000) :
    Calls Try.prog 35 #[.pointer (some ⟨t, 0, none⟩), .pointer (some ⟨k, 0, none⟩), (OpP.mk 4 pid nn x).val] w (DoesPost w t k n B K last ⟨4, pid, nn, x⟩) := by
  obtain ⟨xp, xj, xe, xs, xr, xc, xn, xt, xo⟩ := x
  have hf0 := ((Fr.refl (fun _ => False) w).alloc (.cells #[.int .i64 4, .int .i64 pid, .int .i64 nn, .int .i64 xp, .int .i64 xj, .int .i64 xe, .int .i64 xs, .int .i64 xr, xc, .int .i64 xt, .int .i64 xo] 63))
  have HX := Lib.hid ((Blk.new w 63 #[.int .i64 4, .int .i64 pid, .int .i64 nn, .int .i64 xp, .int .i64 xj, .int .i64 xe, .int .i64 xs, .int .i64 xr, xc, .int .i64 xt, .int .i64 xo]))
  have hid : wf64 pid := ho.pid
  have hco : CoresOk w xc xn := ho.cor
  have hlow : 0 < xn.length → ∀ g, xc.ownBlock = some g → ¬ B g := ho.low
  obtain ⟨X, Y, hT0, hR0, hXY, hXB, hYB⟩ := h
  have hT := hT0.fr0 hf0
  have hR := hR0.fr0 hf0
  have HF := Lib.hid hf0
  have hsz := hf0.size
  have HXl := Lib.hid (fun i (hi : X i) => hT0.lt hi)
  have HYl := Lib.hid (fun i (hi : Y i) => hR0.lt hi)
  have C1 := Lib.hid (reap39_any _ t K last X hT pid hid)
  have HR1 := Lib.hid (fun w1 h1 => PNx.ref (K' := reapK K pid) (last' := last) (t := t) (w1 := w1) hR hXY h1)
  have C2 := Lib.hid (fun W (hW : RT W k n Y) => rreap54_any W k n Y hW hn pid)
  have HFIN := Lib.hid (fun w1 w2 h1 (h2 : RNx w1 k n Y w2) => DSt.two (t := t) (K' := reapK K pid) (last' := last) (w1 := w1) (w2 := w2) hR hXY hXB hYB (fun i hi => hB i (Nat.le_trans hsz hi)) h1 h2.up)
  have HXY := Lib.hid hXY
  obtain ⟨y1, _⟩ := bx2 HX.out
  clear hT hR hT0 hR0 hXY hXB hYB hf0 hco hlow ho
  simp only [OpP.val]
  go_enter Try.func35, Try.ntmps35
  go_wp2_with fail
  refine C1.out.mono ?_
  rintro e w1 ⟨x1, rfl, hc1, ht1, _, hx1⟩
  clear y1
  have HT1 := Lib.hid ht1
  have HX1 := Lib.hid (HX.out.fr ht1.frX (fun hi => by have := HXl.out _ hi; omega))
  have hsz1 := ht1.frX.size
  obtain ⟨ap, aj, ae, as_, ar, ac, an, at_, ao⟩ := x1
  have hc1 : CoresOk w1 ac an := hc1
  have hx1 : ∀ g, ac.ownBlock = some g → X g := hx1
  obtain ⟨Aa, capa, rfl⟩ := hc1.ints.sh
  simp only [TaskD.val]
  generalize reapN K pid = r1 at *
  have hfa : Fr (fun _ => False) w1 (w1.alloc (.cells #[.int .i64 ap, .int .i64 aj, .int .i64 ae, .int .i64 as_, .int .i64 ar, .slice Aa an.length capa, .int .i64 at_, .int .i64 ao] 61)) := (Fr.refl _ w1).alloc _
  have HFA := Lib.hid hfa
  have HBA := Lib.hid (Blk.new w1 61 #[.int .i64 ap, .int .i64 aj, .int .i64 ae, .int .i64 as_, .int .i64 ar, .slice Aa an.length capa, .int .i64 at_, .int .i64 ao])
  obtain ⟨y1, _⟩ := bx2 (HX1.out.fr hfa (fun h => h))
  have HC2 := Lib.hid (C2.out _ ((HR1.out _ ht1).fr0 hfa))
  have HCA := Lib.hid (hc1.fr0 hfa)
  have HXA := Lib.hid hx1
  clear hfa ht1 hc1 hx1
  go_wp2_with fail
  refine HC2.out.mono ?_
  rintro e w2 ⟨x2, c2, rfl, hc2, ht2⟩
  clear y1
  obtain ⟨bp, bj, be, bs, br, bc, bn, bt, bo⟩ := x2
  have hc2 : CoresOk w2 bc bn := hc2
  obtain ⟨Ab, capb, rfl⟩ := hc2.ints.sh
  simp only [TaskD.val]
  have hb2 := HBA.out.fr ht2.frY (fun hi => by have := HYl.out _ hi; omega)
  have hcA2 := HCA.out.fr ht2.frY (fun g hg => HXY.out g (HXA.out g hg))
  have HT2 := Lib.hid ht2
  have hfb : Fr (fun _ => False) w2 (w2.alloc (.cells #[.int .i64 bp, .int .i64 bj, .int .i64 be, .int .i64 bs, .int .i64 br, .slice Ab bn.length capb, .int .i64 bt, .int .i64 bo] 61)) := (Fr.refl _ w2).alloc _
  have HFB := Lib.hid hfb
  obtain ⟨y0, y1, y2, y3, y4, y5, y6, y7⟩ := tc (hb2.fr hfb (fun h => h))
  obtain ⟨z0, z1, z2, z3, z4, z5, z6, z7⟩ := tc (Blk.new w2 61 #[.int .i64 bp, .int .i64 bj, .int .i64 be, .int .i64 bs, .int .i64 br, .slice Ab bn.length capb, .int .i64 bt, .int .i64 bo])
  have HC3 := Lib.hid (one38_any _ ⟨ap, aj, ae, as_, ar, .slice Aa an.length capa, an, at_, ao⟩ ⟨bp, bj, be, bs, br, .slice Ab bn.length capb, bn, bt, bo⟩ (hcA2.fr0 hfb) (hc2.fr0 hfb))
  clear hfb ht2 hc2 hcA2 hb2
  simp only [TaskD.val] at *
  go_wp2_with fail
  refine HC3.out.mono ?_
  rintro e w3 ⟨b3, rfl, hf3⟩
  have HF3 := Lib.hid hf3
  have HFIN2 := Lib.hid (HFIN.out w1 w2 HT1.out (RNx.pre HFA.out HT2.out))
  have HG : Hid (DSt w3 t k (n + 1) B (reapK K pid) last ∧ Fr B w w3) := Lib.hid (by
    obtain ⟨p1, p2⟩ := HFIN2.out
    have hff := HFB.out.then HF3.out
    exact ⟨p1.fr0 hff, ((HF.out.mono (S' := B) (fun _ _ h => h.elim)).then p2).then (hff.mono (fun _ _ h => h.elim))⟩)
  clear y0 y1 y2 y3 y4 y5 y6 y7 z0 z1 z2 z3 z4 z5 z6 z7 hf3
  cases b3 with
  | true =>
    go_wp2
    go_ret
    exact ⟨_, rfl, HG.out⟩
  | false =>
    go_wp2
    go_ret
    exact ⟨_, rfl, HG.out⟩

set_option maxHeartbeats 2000000 in
theorem does35_any (w : World) (t k n : Nat) (B : Nat → Prop) (K : List (TaskD × Int)) (last : Int) (h : DSt w t k n B K last) (hB : ∀ i, w.heap.size ≤ i → B i) (hn : n ≤ 1000) (o : OpP) (ho : OpOk w B o) (hl : last < 100000) :
    Calls Try.prog 35 #[.pointer (some ⟨t, 0, none⟩), .pointer (some ⟨k, 0, none⟩), o.val] w (DoesPost w t k n B K last o) := by
  obtain ⟨do_, pid, nn, x⟩ := o
  by_cases h0 : do_ = 0
  · subst h0; exact does35_spawn w t k n B K last h hB hn pid nn x ho hl
  by_cases h1 : do_ = 1
  · subst h1; exact does35_rel w t k n B K last h hB hn pid nn x ho hl
  by_cases h2 : do_ = 2
  · subst h2; exact does35_sig w t k n B K last h hB hn pid nn x ho hl
  by_cases h3 : do_ = 3
  · subst h3; exact does35_ext w t k n B K last h hB hn pid nn x ho hl
  by_cases h4 : do_ = 4
  · subst h4; exact does35_reap w t k n B K last h hB hn pid nn x ho hl
  have e : doesK K last ⟨do_, pid, nn, x⟩ = K := by unfold doesK; rw [if_neg h0, if_neg h1, if_neg h2, if_neg h3, if_neg h4]
  have e2 : doesL K last ⟨do_, pid, nn, x⟩ = last := by unfold doesL; rw [if_neg h0]
  have HP : Hid (∀ w', Fr (fun _ => False) w w' → DoesPost w t k n B K last ⟨do_, pid, nn, x⟩ (.returned (.bool true)) w') := Lib.hid fun w' hf => ⟨_, rfl, by rw [e, e2]; exact (h.fr0 hf).up, hf.mono (fun _ _ h => h.elim)⟩
  have b0 : (do_ == 0) = false := by simpa using h0
  have b1 : (do_ == 1) = false := by simpa using h1
  have b2 : (do_ == 2) = false := by simpa using h2
  have b3 : (do_ == 3) = false := by simpa using h3
  have b4 : (do_ == 4) = false := by simpa using h4
  clear h ho e e2
  obtain ⟨xp, xj, xe, xs, xr, xc, xn, xt, xo⟩ := x
  simp only [OpP.val]
  go_enter Try.func35, Try.ntmps35
  go_wp2
  go_ret
  exact HP.out _ ((Fr.refl _ w).alloc _)

end Go.Proofs.Ytomoomopodihhaa
