/-
  Assign: what lies in memory between two rounds; the fold that it is.
-/
import Derived.Test.YtcefadbnmpjeiaaI
namespace Go.Proofs.Ytcefadbnmpjeiaa
open Go.RowKit Go.Maps Go.Shelf

theorem info33 : (Try.prog.info? 33).map (fun i => (i.zero, i.size, i.bytes)) = some (some (.agg #[.int .u64 0, .int .u64 0, .int .u64 0, .int .u64 0]), 4, 32) := by kernel_rfl

structure WishD where
  free : Nat
  ranks : Int
  per : Int
  dist : Int
def WishD.cells (x : WishD) : Array Value := #[.int .u64 (wordM x.free 0 : Nat), .int .u64 (wordM x.free 1 : Nat), .int .u64 (wordM x.free 2 : Nat), .int .u64 (wordM x.free 3 : Nat), .int .i64 x.ranks, .int .i64 x.per, .int .i64 x.dist]
def WishD.val (x : WishD) : Value := .agg x.cells

/-- One core, in its turn: the masks so far, and the rank that is being laid. -/
def stepA (F P : Nat) (st : List Nat × List Int) (x : Int) : List Nat × List Int :=
  if hasM F x then (if st.2.length + 1 < P then (st.1, st.2 ++ [x]) else (st.1 ++ [(ofM (st.2 ++ [x])).1], [])) else st
def foldA (F P : Nat) (L : List Int) : List Nat × List Int := L.foldl (stepA F P) ([], [])
theorem foldA_snoc (F P : Nat) (L : List Int) (x : Int) : foldA F P (L ++ [x]) = stepA F P (foldA F P L) x := by simp [foldA]

def flatM (Ms : List Nat) : List Value := Ms.flatMap fun M => (cellsM M).toList
theorem flatM_snoc (Ms : List Nat) (M : Nat) : flatM (Ms ++ [M]) = flatM Ms ++ [.int .u64 (wordM M 0 : Nat), .int .u64 (wordM M 1 : Nat), .int .u64 (wordM M 2 : Nat), .int .u64 (wordM M 3 : Nat)] := by simp [flatM, cellsM]

/-- No cells. -/
def NoCells (W : World) (i : Nat) : Prop := ∀ cs t f, W.heap[i]? ≠ some (.cells cs t f)

structure AState (N0 n1 R4 R5 K9 M8 B3 : Nat) (W : World) (wc : Array Value) (rkv msv : Value) (rk : List Int) (ms : List Nat) : Prop where
  bk : Blk W K9 24 #[rkv]
  bm : Blk W M8 46 #[msv]
  rowk : W.ownsRow N0 3 1 rkv rk.length (rk.map encI)
  rowm : W.ownsRow N0 33 4 msv ms.length (flatM ms)
  r4 : Blk W R4 46 #[.slice none 0 0]
  r5 : Blk W R5 25 #[.int .i64 0]
  bw : Blk W B3 50 wc
  size : N0 ≤ W.heap.size
  ord : n1 ≤ B3 ∧ B3 < R4 ∧ R4 < R5 ∧ R5 < M8 ∧ M8 < K9 ∧ K9 < N0

section
variable {N0 n1 R4 R5 K9 M8 B3 : Nat} {W W' : World} {wc : Array Value} {rkv msv : Value} {rk : List Int} {ms : List Nat}

theorem AState.fr {S : Nat → Prop} (h : AState N0 n1 R4 R5 K9 M8 B3 W wc rkv msv rk ms) (hf : Fr S W W') (hs : ∀ i, S i → NoCells W i) : AState N0 n1 R4 R5 K9 M8 B3 W' wc rkv msv rk ms where
  bk := h.bk.fr hf (fun e => hs _ e _ _ _ h.bk)
  bm := h.bm.fr hf (fun e => hs _ e _ _ _ h.bm)
  rowk := ownsRow_fr h.rowk hf (fun k hk e => by obtain ⟨cur, hc⟩ := ownsRow_block h.rowk hk; exact hs _ e _ _ _ hc)
  rowm := ownsRow_fr h.rowm hf (fun k hk e => by obtain ⟨cur, hc⟩ := ownsRow_block h.rowm hk; exact hs _ e _ _ _ hc)
  r4 := h.r4.fr hf (fun e => hs _ e _ _ _ h.r4)
  r5 := h.r5.fr hf (fun e => hs _ e _ _ _ h.r5)
  bw := h.bw.fr hf (fun e => hs _ e _ _ _ h.bw)
  size := Nat.le_trans h.size hf.size
  ord := h.ord
theorem AState.fr0 (h : AState N0 n1 R4 R5 K9 M8 B3 W wc rkv msv rk ms) (hf : Fr (fun _ => False) W W') : AState N0 n1 R4 R5 K9 M8 B3 W' wc rkv msv rk ms := h.fr hf (fun _ h => h.elim)

theorem fr_of_own {row : Option Nat} (hg : W.grownBy W' row) (hr : ∀ r, row = some r → ∃ o : Obj, W.heap[r]? = some o ∧ o.isCells = false) : Fr (NoCells W) W W' :=
  Fr.of_grown hg fun k e => by
    obtain ⟨o, ho, hc⟩ := hr k e
    intro cs t f he
    rw [ho] at he
    cases he
    cases hc

theorem keeps_of_fr {S : Nat → Prop} (hf : Fr S W W') (hs : ∀ i, S i → i < W.heap.size → ∃ cs t f, W.heap[i]? = some (.cells cs t f)) : KeepsOthers W W' where
  size := hf.size
  same := fun k o ho hc => by
    refine hf.heap ho fun hk => ?_
    obtain ⟨cs, t, f, he⟩ := hs k hk (lt_of_heap ho)
    rw [ho] at he
    cases he
    cases hc

/-- The rank grows. -/
theorem AState.rank {w1 : World} {x : Int} {tmp : Obj} {v' : Value} (h : AState N0 n1 R4 R5 K9 M8 B3 W wc rkv msv rk ms) (hown : w1.ownsRow N0 3 1 v' (rk.length + 1) (rk.map encI ++ [encI x])) (hg : (W.alloc tmp).grownBy w1 rkv.ownBlock) :
    AState N0 n1 R4 R5 K9 M8 B3 (w1.setCell ⟨K9, 0, none⟩ v') wc v' msv (rk ++ [x]) ms ∧ KeepsOthers W (w1.setCell ⟨K9, 0, none⟩ v') ∧ Fr (fun i => n1 ≤ i) W (w1.setCell ⟨K9, 0, none⟩ v') ∧ KpS (fun i => i = K9 ∨ i = M8 ∨ i = R4 ∨ i = R5) N0 W (w1.setCell ⟨K9, 0, none⟩ v') ∧ Blk w1 K9 24 #[rkv] := by
  have ho := h.ord
  have hb1 := (h.bk.alloc tmp).grown hg (fun e => by obtain ⟨cur, hc⟩ := ownsRow_block h.rowk e.symm; have := h.bk.symm.trans hc; simp at this)
  have hf : Fr (fun i => i = K9 ∨ some i = rkv.ownBlock) W (w1.setCell ⟨K9, 0, none⟩ v') := by
    refine Fr.setCell (p := ⟨K9, 0, none⟩) ?_ (Or.inl (Or.inl rfl)) _
    exact (((Fr.refl _ W).alloc tmp)).grown hg fun k e => Or.inl (Or.inr e.symm)
  have hx : ∀ {g : Nat} {t : TypeId} {cs : Array Value}, Blk W g t cs → t ≠ 3 → g ≠ K9 → Blk (w1.setCell ⟨K9, 0, none⟩ v') g t cs := fun hb ht hne => hb.fr hf (by
    rintro (e | e)
    · exact hne e
    · obtain ⟨cur, hc⟩ := ownsRow_block h.rowk e.symm
      unfold Blk at hb
      rw [hc] at hb
      cases hb
      exact ht rfl)
  refine ⟨⟨?_, hx h.bm (by decide) (by omega), ?_, ?_, hx h.r4 (by decide) (by omega), hx h.r5 (by decide) (by omega), hx h.bw (by decide) (by omega), Nat.le_trans h.size hf.size, ho⟩, ?_, ?_, ?_, hb1⟩
  · exact hb1.set_ 0 v'
  · rw [List.length_append, List.map_append]
    exact ownsRow_set hown hb1 (by decide) _ _
  · refine ownsRow_fr h.rowm hf fun g hg' => ?_
    rintro (e | e)
    · have := (h.rowm.lt g hg').1; omega
    · obtain ⟨c1, hc1⟩ := ownsRow_block h.rowm hg'
      obtain ⟨c2, hc2⟩ := ownsRow_block h.rowk e.symm
      rw [hc1] at hc2
      simp at hc2
  · refine keeps_of_fr hf fun i hi _ => ?_
    rcases hi with rfl | e
    · exact ⟨_, _, _, h.bk⟩
    · obtain ⟨cur, hc⟩ := ownsRow_block h.rowk e.symm; exact ⟨_, _, _, hc⟩
  · exact hf.mono fun i _ hi => by
      rcases hi with rfl | e
      · omega
      · have := (h.rowk.lt i e.symm).1; omega
  · exact KpS.fr hf fun i hi hs => by
      rcases hs with rfl | e
      · exact Or.inl rfl
      · have := (h.rowk.lt i e.symm).1; omega
end

end Go.Proofs.Ytcefadbnmpjeiaa
