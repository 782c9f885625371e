/-
  Assign: a rank's mask is laid; the answer is laid.
-/
import Derived.Test.YtcefadbnmpjeiaaJ
namespace Go.Proofs.Ytcefadbnmpjeiaa
open Go.RowKit Go.Maps Go.Shelf

/-- The answer lies in the results' cells. -/
structure RState (N0 R4 R5 : Nat) (W : World) (v : Value) (ms : List Nat) (e : Int) : Prop where
  r4 : Blk W R4 46 #[v]
  r5 : Blk W R5 25 #[.int .i64 e]
  row : W.ownsRow N0 33 4 v ms.length (flatM ms)

section
variable {N0 n1 R4 R5 K9 M8 B3 : Nat} {W W' : World} {wc : Array Value} {rkv msv v : Value} {rk : List Int} {ms : List Nat} {e : Int}

theorem RState.fr {S : Nat → Prop} (h : RState N0 R4 R5 W v ms e) (hf : Fr S W W') (hs : ∀ i, S i → NoCells W i) : RState N0 R4 R5 W' v ms e where
  r4 := h.r4.fr hf (fun e => hs _ e _ _ _ h.r4)
  r5 := h.r5.fr hf (fun e => hs _ e _ _ _ h.r5)
  row := ownsRow_fr h.row hf (fun k hk e => by obtain ⟨cur, hc⟩ := ownsRow_block h.row hk; exact hs _ e _ _ _ hc)

theorem AState.mask {w1 : World} {M : Nat} {t1 t2 : Obj} {v' : Value} (h : AState N0 n1 R4 R5 K9 M8 B3 W wc rkv msv rk ms) (hown : w1.ownsRow N0 33 4 v' (ms.length + 1) (flatM (ms ++ [M]))) (hg : ((W.alloc t1).alloc t2).grownBy w1 msv.ownBlock) :
    AState N0 n1 R4 R5 K9 M8 B3 ((w1.setCell ⟨M8, 0, none⟩ v').setCell ⟨K9, 0, none⟩ (.slice none 0 0)) wc (.slice none 0 0) v' [] (ms ++ [M]) ∧ KeepsOthers W ((w1.setCell ⟨M8, 0, none⟩ v').setCell ⟨K9, 0, none⟩ (.slice none 0 0)) ∧ Fr (fun i => n1 ≤ i) W ((w1.setCell ⟨M8, 0, none⟩ v').setCell ⟨K9, 0, none⟩ (.slice none 0 0)) ∧ KpS (fun i => i = K9 ∨ i = M8 ∨ i = R4 ∨ i = R5) N0 W ((w1.setCell ⟨M8, 0, none⟩ v').setCell ⟨K9, 0, none⟩ (.slice none 0 0)) ∧ Blk w1 M8 46 #[msv] ∧ Blk w1 K9 24 #[rkv] := by
  have ho := h.ord
  have hf0 : Fr (fun i => some i = msv.ownBlock) W w1 := (((Fr.refl _ W).alloc t1).alloc t2).grown hg fun k e => Or.inl e.symm
  have hx0 : ∀ {g : Nat} {t : TypeId} {cs : Array Value}, Blk W g t cs → t ≠ 33 → Blk w1 g t cs := fun hb ht => hb.fr hf0 (by
    intro e
    obtain ⟨cur, hc⟩ := ownsRow_block h.rowm e.symm
    unfold Blk at hb
    rw [hc] at hb
    cases hb
    exact ht rfl)
  have hb1 := hx0 h.bm (by decide)
  have hk0 := hx0 h.bk (by decide)
  have hk1 := hk0.far (p := ⟨M8, 0, none⟩) (by simp; omega) v'
  have hf1 := hf0.mono (S' := fun i => i = M8 ∨ i = K9 ∨ some i = msv.ownBlock) (fun i _ e => Or.inr (Or.inr e))
  have hf : Fr (fun i => i = M8 ∨ i = K9 ∨ some i = msv.ownBlock) W ((w1.setCell ⟨M8, 0, none⟩ v').setCell ⟨K9, 0, none⟩ (.slice none 0 0)) :=
    (hf1.setCell (p := ⟨M8, 0, none⟩) (Or.inl (Or.inl rfl)) _).setCell (p := ⟨K9, 0, none⟩) (Or.inl (Or.inr (Or.inl rfl))) _
  have hx : ∀ {g : Nat} {t : TypeId} {cs : Array Value}, Blk W g t cs → t ≠ 33 → g ≠ M8 → g ≠ K9 → Blk ((w1.setCell ⟨M8, 0, none⟩ v').setCell ⟨K9, 0, none⟩ (.slice none 0 0)) g t cs := fun hb ht h1 h2 =>
    ((hx0 hb ht).far (p := ⟨M8, 0, none⟩) h1 _).far (p := ⟨K9, 0, none⟩) h2 _
  have hr1 := ownsRow_set hown hb1 (by decide) 0 v'
  have hr2 := ownsRow_set hr1 hk1 (by decide) 0 (.slice none 0 0)
  refine ⟨⟨hk1.set_ 0 _, (hb1.set_ 0 v').far (p := ⟨K9, 0, none⟩) (by simp; omega) _, World.ownsRow_nil _ _ _ _, ?_, hx h.r4 (by decide) (by omega) (by omega), hx h.r5 (by decide) (by omega) (by omega), hx h.bw (by decide) (by omega) (by omega), Nat.le_trans h.size hf.size, ho⟩, ?_, ?_, ?_, hb1, hk0⟩
  · rw [List.length_append]
    exact hr2
  · refine keeps_of_fr hf fun i hi _ => ?_
    rcases hi with rfl | rfl | e
    · exact ⟨_, _, _, h.bm⟩
    · exact ⟨_, _, _, h.bk⟩
    · obtain ⟨cur, hc⟩ := ownsRow_block h.rowm e.symm; exact ⟨_, _, _, hc⟩
  · exact hf.mono fun i _ hi => by
      rcases hi with rfl | rfl | e
      · omega
      · omega
      · have := (h.rowm.lt i e.symm).1; omega
  · exact KpS.fr hf fun i hi hs => by
      rcases hs with rfl | rfl | e
      · exact Or.inr (Or.inl rfl)
      · exact Or.inl rfl
      · have := (h.rowm.lt i e.symm).1; omega

theorem AState.answer (h : AState N0 n1 R4 R5 K9 M8 B3 W wc rkv msv rk ms) (v : Value) (ms' : List Nat) (hrow : W.ownsRow N0 33 4 v ms'.length (flatM ms')) (e : Int) :
    RState N0 R4 R5 ((W.setCell ⟨R4, 0, none⟩ v).setCell ⟨R5, 0, none⟩ (.int .i64 e)) v ms' e ∧ KeepsOthers W ((W.setCell ⟨R4, 0, none⟩ v).setCell ⟨R5, 0, none⟩ (.int .i64 e)) ∧ Fr (fun i => n1 ≤ i) W ((W.setCell ⟨R4, 0, none⟩ v).setCell ⟨R5, 0, none⟩ (.int .i64 e)) ∧ Blk (W.setCell ⟨R4, 0, none⟩ v) R5 25 #[.int .i64 0] := by
  have ho := h.ord
  have hb5 := h.r5.far (p := ⟨R4, 0, none⟩) (by simp; omega) v
  refine ⟨⟨(h.r4.set_ 0 v).far (p := ⟨R5, 0, none⟩) (by simp; omega) _, hb5.set_ 0 _, ownsRow_set (ownsRow_set hrow h.r4 (by decide) _ _) hb5 (by decide) _ _⟩, (KeepsOthers.setCell _ _ _).trans (KeepsOthers.setCell _ _ _), ?_, hb5⟩
  exact ((Fr.refl _ W).setCell (p := ⟨R4, 0, none⟩) (Or.inl (by simp; omega)) v).setCell (p := ⟨R5, 0, none⟩) (Or.inl (by simp; omega)) _
end

theorem news_two4 (W : World) (t t' : TypeId) (o : Array Value) (L : List Value) : ∀ j u, L[j]? = some u → ((W.alloc (.cells o t')).alloc (.cells L.toArray t)).cell? ((⟨W.heap.size + 1, 0, none⟩ : Addr).add j) = some u := by
  have h := heap_alloc_new (W.alloc (.cells o t')) (.cells L.toArray t)
  rw [World.size_alloc] at h
  exact World.news_of_block h

theorem results_cell_cell {fn : Func} {p u : Tmp} {ty ty' : TypeId} (h : fn.results = #[.cell p ty, .cell u ty']) (tmps : Array Value) (P : Program) (w : World) :
    (results fn tmps).run P w =
      ((asAddr (tmps.getD p undef)).run P w).andThen fun a w₁ => ((loadVar ty a).run P w₁).andThen fun v w₂ => ((asAddr (tmps.getD u undef)).run P w₂).andThen fun b w₃ => ((loadVar ty' b).run P w₃).andThen fun v' w₄ => .ok (.tuple #[v, v']) w₄ := by
  simp only [results, h]
  simp [Sem.run_bind, Result.andThen]

end Go.Proofs.Ytcefadbnmpjeiaa
