/-
  The queue: Set, Cancel.
-/
import Derived.Test.YtdlpiaglgdafoaaTj
namespace Go.Proofs.Ytdlpiaglgdafoaa
open Go.RowKit Go.Maps

theorem hasK_perm {S S' : List KeyD} (h : S.Perm S') (id : Int) : hasK id S = hasK id S' := by
  cases h1 : hasK id S' with
  | true =>
    obtain ⟨p, hp, e⟩ := hasK_iff.1 h1
    exact hasK_iff.2 ⟨p, h.mem_iff.2 hp, e⟩
  | false =>
    cases h2 : hasK id S with
    | false => rfl
    | true =>
      obtain ⟨p, hp, e⟩ := hasK_iff.1 h2
      rw [hasK_iff.2 ⟨p, h.mem_iff.1 hp, e⟩] at h1
      cases h1
theorem rem_split {L E : List EntD} {S : List KeyD} {x : EntD} (hp : (L.map (·.2)).Perm S) (hn : (S.map (·.2)).Nodup) (hL : L.Perm (x :: E)) : (E.map (·.2)).Perm (remK x.2.2 S) ∧ hasK x.2.2 S = true := by
  have h1 : S.Perm (x.2 :: E.map (·.2)) := hp.symm.trans (hL.map _)
  have h2 := (h1.map (·.2)).nodup_iff.1 hn
  rw [List.map_cons, List.nodup_cons] at h2
  have h3 : remK x.2.2 S |>.Perm (remK x.2.2 (x.2 :: E.map (·.2))) := h1.filter _
  have h4 : hasK x.2.2 (E.map (·.2)) = false := by
    cases h : hasK x.2.2 (E.map (·.2)) with
    | false => rfl
    | true =>
      obtain ⟨p, hp, e⟩ := hasK_iff.1 h
      exact absurd (by rw [← e]; exact List.mem_map_of_mem hp) h2.1
  have h5 : remK x.2.2 (x.2 :: E.map (·.2)) = E.map (·.2) := by
    have := remK_none h4
    unfold remK at this ⊢
    rw [List.filter_cons_of_neg (by simp), this]
  rw [h5] at h3
  exact ⟨h3.symm, by rw [hasK_perm h1]; exact hasK_iff.2 ⟨x.2, List.mem_cons_self, rfl⟩⟩

theorem set_perm_at {α : Type} (L : List α) {k : Nat} (hk : k < L.length) (a : α) : (L.set k a).Perm (a :: (L.take k ++ L.drop (k + 1))) := by
  rw [List.set_eq_take_append_cons_drop, if_pos hk]
  exact List.perm_middle
theorem perm_at {α : Type} (L : List α) {k : Nat} (hk : k < L.length) : L.Perm (L[k] :: (L.take k ++ L.drop (k + 1))) := by
  have h := set_perm_at L hk L[k]
  rw [List.set_getElem_self] at h
  exact h

section
variable {w w' : World} {q m : Nat} {L : List EntD} {v : Value}

/-- An entry's time, changed. -/
theorem TAt.put (h : TAt w q m L v) {k : Nat} (hk : k < L.length) (at_ : Int) :
    HAt (w.setCell ⟨(L[k]'hk).1, 0, none⟩ (.int .i64 at_)) 0 q (.map (some m)) (L.set k ((L[k]'hk).1, (at_, (L[k]'hk).2.2))) v ∧
    MapL Try.prog 3 (w.setCell ⟨(L[k]'hk).1, 0, none⟩ (.int .i64 at_)) m ((L.set k ((L[k]'hk).1, (at_, (L[k]'hk).2.2))).map eP) ∧
    DInv (L.set k ((L[k]'hk).1, (at_, (L[k]'hk).2.2))) L.length k k := by
  have hb := h.heap.ent k hk
  have hm := h.m_not
  refine ⟨⟨h.heap.blk.far (p := ⟨(L[k]'hk).1, 0, none⟩) (fun e => absurd ((e ▸ h.heap.blk).uniq hb).1 (by decide)) _, ?_, fun j hj => ?_, fun _ _ => Nat.zero_le _, Nat.zero_le _⟩, ?_, ?_⟩
  · rw [List.length_set]
    have e1 : (L.set k ((L[k]'hk).1, (at_, (L[k]'hk).2.2))).map encE = L.map encE := by
      rw [List.map_set]
      apply List.ext_getElem
      · simp
      · intro j h1 h2
        rw [List.getElem_set]
        split
        · rename_i e; subst e; simp [encE]
        · rfl
    rw [e1]
    exact ownsRow_set h.heap.row hb (by decide) 0 _
  · rw [List.length_set] at hj
    rw [List.getElem_set]
    by_cases e : k = j
    · subst e
      simp only [if_pos rfl]
      have := hb.set_ 0 (.int .i64 at_)
      simpa using this
    · simp only [if_neg e]
      exact (h.heap.ent j hj).far (p := ⟨(L[k]'hk).1, 0, none⟩) (fun e2 => e (h.heap.inj hk hj e2.symm)) _
  · have e1 : (L.set k ((L[k]'hk).1, (at_, (L[k]'hk).2.2))).map eP = L.map eP := by
      rw [List.map_set]
      apply List.ext_getElem
      · simp
      · intro j h1 h2
        rw [List.getElem_set]
        split
        · rename_i e; subst e; simp [eP, encE]
        · rfl
    rw [e1]
    exact h.map.setCell (a := ⟨(L[k]'hk).1, 0, none⟩) (fun e => hm.2 (Or.inr ⟨_, List.getElem_mem hk, e.symm⟩)) _
  · refine h.hN.fix' (fun j hj hne => ?_)
    rw [ky_get hj, ky_get (by rw [List.length_set]; exact hj), List.getElem_set, if_neg (Ne.symm hne)]

theorem HS.set {k : Nat} (hk : k < L.length) (y : EntD) (hy : y.1 = (L[k]'hk).1) {i : Nat} (h : HS v (L.set k y) i) : HS v L i := by
  rcases h with h1 | ⟨e, he, h1⟩
  · exact Or.inl h1
  · rcases List.mem_or_eq_of_mem_set he with he | rfl
    · exact Or.inr ⟨e, he, h1⟩
    · exact Or.inr ⟨_, List.getElem_mem hk, by rw [← hy]; exact h1⟩

/-- .. and behind 'heap.Fix'. -/
theorem TAt.set_hit (h : TAt w q m L v) {S : List KeyD} (hp : (L.map (·.2)).Perm S) (ho : QOk S) {k : Nat} (hk : k < L.length) {id at_ : Int} (hid : (L[k]'hk).2.2 = id) (hb : badK id at_ = false) {wd : World} {e : Ending}
    (hd : Fr (fun _ => False) (w.setCell ⟨(L[k]'hk).1, 0, none⟩ (.int .i64 at_)) wd) (hpost : HeapPost 0 q (.map (some m)) (L.set k ((L[k]'hk).1, (at_, (L[k]'hk).2.2))) v wd e w') : e = .returned (.tuple #[]) ∧ TNext w q (insK (at_, id) (remK id S)) (ownT q m v L) w' := by
  subst hid
  obtain ⟨L', rfl, ha, hL, hh, hf⟩ := hpost
  obtain ⟨p1, p2, p3⟩ := h.put hk at_
  have hm := h.m_not
  have hset := set_perm_at L hk ((L[k]'hk).1, (at_, (L[k]'hk).2.2))
  have hLk := perm_at L hk
  obtain ⟨r1, r2⟩ := rem_split hp ho.ids hLk
  have hsub : ∀ i, HS v L' i → HS v L i := fun i hi => HS.set hk ((L[k]'hk).1, (at_, (L[k]'hk).2.2)) rfl (hi.perm hL)
  have hsn : setN S (L[k]'hk).2.2 at_ = 0 := by unfold setN; rw [hb, r2]; simp
  have ho2 : QOk (insK (at_, (L[k]'hk).2.2) (remK (L[k]'hk).2.2 S)) := by
    have := ho.set (L[k]'hk).2.2 at_
    unfold setK at this
    rw [if_pos hsn] at this
    exact this
  have hf0 : Fr (fun i => HS v L i) w wd := ((Fr.refl (fun i => HS v L i) w).setCell (p := ⟨(L[k]'hk).1, 0, none⟩) (Or.inl (Or.inr ⟨_, List.getElem_mem hk, rfl⟩)) _).trans hd (fun _ _ h => h.elim)
  refine ⟨rfl, ownT q m v L', ⟨m, L', v, ⟨ha, ?_, hh⟩, ?_, ho2, rfl⟩, ?_, ?_⟩
  · exact ((p2.fr hd (fun h => h)).fr hf (fun hs => hm.2 (HS.set hk ((L[k]'hk).1, (at_, (L[k]'hk).2.2)) rfl hs))).perm (hL.symm.map eP)
  · refine ((hL.trans hset).map _).trans ?_
    refine List.Perm.trans ?_ (insK_perm _ _).symm
    rw [List.map_cons]
    exact r1.cons _
  · exact (hf0.trans hf (fun i _ hi => HS.set hk ((L[k]'hk).1, (at_, (L[k]'hk).2.2)) rfl hi)).mono (fun i _ hi => Or.inr (Or.inr hi))
  · rintro i (rfl | rfl | hi)
    · exact Or.inl (Or.inl rfl)
    · exact Or.inl (Or.inr (Or.inl rfl))
    · exact Or.inl (Or.inr (Or.inr (hsub i hi)))

/-- .. and a new one, behind 'heap.Push', and in the map. -/
theorem TAt.set_new (h : TAt w q m L v) {S : List KeyD} (hp : (L.map (·.2)).Perm S) (ho : QOk S) {id at_ : Int} (hno : ∀ e ∈ L, e.2.2 ≠ id) (hb : badK id at_ = false) (hl : L.length < 256) {w1 w2 w3 : World} {L' : List EntD} {v' : Value}
    (h1 : Fr (fun _ => False) w w1) (ha : HAt w2 0 q (.map (some m)) L' v') (hL : L'.Perm (L ++ [(w.heap.size, (at_, id))])) (hh : HeapN L' L'.length) (hf : Fr (fun i => i = q ∨ i = w.heap.size ∨ HS v L i) w1 w2)
    (hv : ∀ i, v'.ownBlock = some i → v.ownBlock = some i ∨ w1.heap.size ≤ i)
    (hm3 : MapL Try.prog 3 w3 m ((.int .i64 id, .pointer (some ⟨w.heap.size, 0, none⟩)) :: (L.map eP).filter (fun p => !p.1.sameKey (.int .i64 id)))) (hg : w2.grownBy w3 (some m)) :
    TNext w q (insK (at_, id) (remK id S)) (ownT q m v L) w3 := by
  have hm := h.m_not
  have hne : hasK id S = false := by
    cases hx : hasK id S with
    | false => rfl
    | true =>
      obtain ⟨p, hp', e⟩ := hasK_iff.1 hx
      obtain ⟨x, hx, rfl⟩ := List.mem_map.1 (hp.mem_iff.2 hp')
      exact absurd e (hno x hx)
  have hlS : S.length = L.length := by rw [← hp.length_eq, List.length_map]
  have hsn : setN S id at_ = 0 := by
    unfold setN; rw [hb, hne]
    have : (S.length == 256) = false := by simp; omega
    rw [this]; rfl
  have ho2 : QOk (insK (at_, id) (remK id S)) := by
    have := ho.set id at_
    unfold setK at this
    rw [if_pos hsn] at this
    exact this
  have hm2 := (h.map.fr h1 (fun h => h)).lt
  have hFg : Fr (fun i => i = m) w2 w3 := Fr.of_grown hg (fun k hk => by cases hk; rfl)
  have hs := h1.size
  have hf2 := hf.size
  have hmv : v'.ownBlock ≠ some m := fun e => by
    rcases hv m e with h1 | h1
    · exact hm.2 (Or.inl h1)
    · omega
  have hml : m < w.heap.size := h.map.lt
  have hmE : ∀ x ∈ L', x.1 ≠ m := fun x hx e => by
    rcases List.mem_append.1 (hL.mem_iff.1 hx) with hx | hx
    · exact hm.2 (Or.inr ⟨x, hx, e⟩)
    · rw [List.mem_singleton] at hx
      subst hx
      simp only at e
      omega
  have ha3 : HAt w3 0 q (.map (some m)) L' v' := ha.fr hFg (fun e => hm.1 e.symm) (fun i hi e => by
    subst e
    rcases hi with h1 | ⟨x, hx, h1⟩
    · exact hmv h1
    · exact hmE x hx h1)
  have hrE : remE id L = L := List.filter_eq_self.2 fun e he => by simpa using hno e he
  rw [filter_eP, hrE] at hm3
  refine ⟨ownT q m v' L', ⟨m, L', v', ⟨ha3, ?_, hh⟩, ?_, ho2, rfl⟩, ?_, ?_⟩
  · refine hm3.perm ?_
    have := (hL.map eP).symm
    rw [List.map_append] at this
    exact (List.perm_append_singleton _ _).symm.trans this
  · refine (hL.map _).trans ?_
    rw [List.map_append, remK_none hne]
    refine List.Perm.trans ?_ (insK_perm _ _).symm
    exact (List.perm_append_singleton _ _).trans (hp.cons _)
  · have hfa : Fr (fun i => i = q ∨ i = w.heap.size ∨ HS v L i) w w2 := (h1.mono (S' := fun i => i = q ∨ i = w.heap.size ∨ HS v L i) (fun _ _ h => h.elim)).then hf
    refine (hfa.mono (S' := ownT q m v L) (fun i hi h => ?_)).trans hFg (fun i _ hi => Or.inr (Or.inl hi))
    rcases h with h | h | h
    · exact Or.inl h
    · omega
    · exact Or.inr (Or.inr h)
  · rintro i (rfl | rfl | h4 | ⟨x, hx, rfl⟩)
    · exact Or.inl (Or.inl rfl)
    · exact Or.inl (Or.inr (Or.inl rfl))
    · rcases hv i h4 with h5 | h5
      · exact Or.inl (Or.inr (Or.inr (Or.inl h5)))
      · exact Or.inr (by omega)
    · rcases List.mem_append.1 (hL.mem_iff.1 hx) with hx | hx
      · exact Or.inl (Or.inr (Or.inr (Or.inr ⟨x, hx, rfl⟩)))
      · rw [List.mem_singleton] at hx
        subst hx
        exact Or.inr (Nat.le_refl _)

/-- .. and one gone, in the map too. -/
theorem TAt.gone (h : TAt w q m L v) {S : List KeyD} (hp : (L.map (·.2)).Perm S) (ho : QOk S) {w1 w2 w3 : World} {x : EntD} {e : Ending}
    (h1 : Fr (fun _ => False) w w1) (hpost : GonePost 0 q (.map (some m)) L v x w1 e w2) :
    e = .returned (.iface 53 (.pointer (some ⟨x.1, 0, none⟩))) ∧ MapL Try.prog 3 w2 m (L.map eP) ∧ w2.cell? ⟨q, 1, none⟩ = some (.map (some m)) ∧ w2.cell? ⟨x.1, 1, none⟩ = some (.int .i64 x.2.2) ∧
    (∀ wd, Fr (fun _ => False) w2 wd → (MapL Try.prog 3 w3 m ((L.map eP).filter (fun p => !p.1.sameKey (.int .i64 x.2.2))) → wd.grownBy w3 (some m) →
      (w3.cell? ⟨x.1, 1, none⟩ = some (.int .i64 x.2.2)) ∧ ∃ X', TQ w3 q (remK x.2.2 S) X' ∧ Fr (ownT q m v L) w w3 ∧ ∀ i, X' i → ownT q m v L i)) := by
  have hm := h.m_not
  obtain ⟨L', v', rfl, ha, hL, hh, hf, hv, px, hbx⟩ := hpost
  have hLx : L.Perm (x :: L') := hL.symm.trans (List.perm_append_singleton _ _)
  obtain ⟨r1, r2⟩ := rem_split hp ho.ids hLx
  have hmap2 : MapL Try.prog 3 w2 m (L.map eP) := (h.map.fr h1 (fun h => h)).fr hf (fun hs => by
    rcases hs with e | hs
    · exact hm.1 e
    · exact hm.2 hs)
  have hxL : x ∈ L := hLx.mem_iff.2 List.mem_cons_self
  have hsub : ∀ i, HS v' L' i → HS v L i := fun i hi => by
    rcases hi with h4 | ⟨y, hy, h4⟩
    · exact Or.inl (by rw [← hv]; exact h4)
    · exact Or.inr ⟨y, hLx.mem_iff.2 (List.mem_cons_of_mem _ hy), h4⟩
  refine ⟨rfl, hmap2, ha.blk.cell 1, hbx.cell 1, fun wd hwd hm3 hg => ?_⟩
  have hFg : Fr (fun i => i = m) w2 w3 := (hwd.mono (S' := fun i => i = m) (fun _ _ h => h.elim)).then (Fr.of_grown hg (fun k hk => by cases hk; rfl))
  have ha3 : HAt w3 0 q (.map (some m)) L' v' := ha.fr hFg (fun e => hm.1 e.symm) (fun i hi e => hm.2 (e ▸ hsub i hi))
  have hrE : remE x.2.2 L |>.Perm L' := by
    have h5 : (remE x.2.2 L).Perm (remE x.2.2 (x :: L')) := hLx.filter _
    have h6 : remE x.2.2 (x :: L') = L' := by
      unfold remE
      rw [List.filter_cons_of_neg (by simp)]
      refine List.filter_eq_self.2 fun y hy => ?_
      have : y.2 ∈ remK x.2.2 S := r1.mem_iff.1 (List.mem_map_of_mem hy)
      have := (remK_mem this).2
      simpa using this
    rw [h6] at h5
    exact h5
  rw [filter_eP] at hm3
  have hf2 : Fr (ownT q m v L) w w2 := (h1.mono (S' := ownT q m v L) (fun _ _ h => h.elim)).trans hf (fun i _ hi => by
    rcases hi with hi | hi
    · exact Or.inl hi
    · exact Or.inr (Or.inr hi))
  have hxm : x.1 ≠ m := fun e => hm.2 (Or.inr ⟨x, hxL, e⟩)
  refine ⟨?_, ownT q m v' L', ⟨m, L', v', ⟨ha3, hm3.perm (hrE.map eP), hh⟩, r1, ho.rem _, rfl⟩, hf2.trans hFg (fun i _ hi => Or.inr (Or.inl hi)), ?_⟩
  · exact (hbx.fr hFg hxm).cell 1
  · rintro i (rfl | rfl | hi)
    · exact Or.inl rfl
    · exact Or.inr (Or.inl rfl)
    · exact Or.inr (Or.inr (hsub i hi))
end

end Go.Proofs.Ytdlpiaglgdafoaa
