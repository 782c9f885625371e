/-
  The queue: Set, Cancel, the walk.
-/
import Derived.Test.YtdlpiaglgdafoaaTk
namespace Go.Proofs.Ytdlpiaglgdafoaa
open Go.RowKit Go.Maps

set_option maxRecDepth 20000 in
set_option maxHeartbeats 2000000 in
theorem set10_any (w : World) (q : Nat) (S : List KeyD) (X : Nat → Prop) (h : TQ w q S X) (id at_ : Int) (hid : wf64 id) :
    Calls Try.prog 10 #[.pointer (some ⟨q, 0, none⟩), .int .i64 id, .int .i64 at_] w fun e w' => e = .returned (.int .i64 (setN S id at_)) ∧ TNext w q (setK S id at_) X w' := by
  have h20 := fun n W => may20_any n W
  by_cases hb : badK id at_ = true
  · have HR := Lib.hid (show TNext w q (setK S id at_) X w from ⟨X, by rw [show setK S id at_ = S by unfold setK setN; rw [if_pos hb]; rfl]; exact h, Fr.refl _ _, fun _ hi => Or.inl hi⟩)
    have e1 : setN S id at_ = 1 := by unfold setN; rw [if_pos hb]
    rw [e1]
    clear h e1
    unfold badK at hb
    cases h1 : mayB id with
    | false =>
      have H20 := Lib.hid (h1 ▸ h20 id)
      clear h20 h1 hb
      go_enter Try.func10, Try.ntmps10
      go_wp2_with fail
      refine (H20.out _).mono ?_
      rintro e w1 ⟨rfl, rfl⟩
      go_wp2
      go_ret
      exact ⟨rfl, HR.out⟩
    | true =>
      have h2 : mayB at_ = false := by
        rw [h1] at hb
        cases h3 : mayB at_
        · rfl
        · rw [h3] at hb; cases hb
      have H20 := Lib.hid (h1 ▸ h20 id)
      have H20' := Lib.hid (h2 ▸ h20 at_)
      clear h20 h1 h2 hb
      go_enter Try.func10, Try.ntmps10
      go_wp2_with fail
      refine (H20.out _).mono ?_
      rintro e w1 ⟨rfl, rfl⟩
      go_wp2_with fail
      refine (H20'.out _).mono ?_
      rintro e w1 ⟨rfl, rfl⟩
      go_wp2
      go_ret
      exact ⟨rfl, HR.out⟩
  · have hb : badK id at_ = false := by simpa using hb
    obtain ⟨h2, h1⟩ := badK_ok hb
    have H20 := Lib.hid (h1 ▸ h20 id)
    have H20' := Lib.hid (h2 ▸ h20 at_)
    clear h20 h1 h2
    obtain ⟨m, L, v, h, hp, ho, rfl⟩ := h
    have c0 := h.c0
    have c1 := h.c1
    have hlS : S.length = L.length := by rw [← hp.length_eq, List.length_map]
    have hl := ho.le
    rcases h.look hid true with ⟨k, hk, e1, hlk⟩ | ⟨hno, hlk⟩
    · have hbl := h.heap.ent k hk
      have hlt := hbl.lt
      obtain ⟨p1, p2, p3⟩ := h.put hk at_
      have hc2 := h.put hk at_ |>.1.ent k (by rw [List.length_set]; exact hk)
      have HFX := Lib.hid (fun wd (hd : Fr (fun _ => False) (w.setCell ⟨(L[k]'hk).1, 0, none⟩ (.int .i64 at_)) wd) => fix21_any wd 0 q (.map (some m)) _ v (p1.fr0 hd) k (by rw [List.length_set]; exact hk) (by rw [List.length_set]; exact p3) (by rw [List.length_set]; omega))
      have HST := Lib.hid (fun wd w' e hd hpost => h.set_hit (w' := w') hp ho hk e1 hb (wd := wd) (e := e) hd hpost)
      have hsn : setN S id at_ = 0 := by unfold setN; rw [hb, ← e1, (rem_split hp ho.ids (perm_at L hk)).2]; simp
      have esk : setK S id at_ = insK (at_, id) (remK id S) := by unfold setK; rw [if_pos hsn]
      rw [hsn, esk]
      rw [List.getElem_set, if_pos rfl] at hc2
      simp only [encE, if_true] at hlk
      clear esk hsn p2 p3 e1 hb
      generalize (L[k]'hk) = x at *
      have b0 := hbl.cell 0
      have f0 := hbl.frozen 0
      have d0 := Later.cell (hc2.cell 2)
      clear h hc2 hbl p1
      go_enter Try.func10, Try.ntmps10
      go_wp2_with fail
      refine (H20.out _).mono ?_
      rintro e w1 ⟨rfl, rfl⟩
      go_wp2_with fail
      refine (H20'.out _).mono ?_
      rintro e w1 ⟨rfl, rfl⟩
      go_wp2_with fail
      refine wp_region_later_tail (w.setCell ⟨x.1, 0, none⟩ (.int .i64 at_)) 8 (by kernel_rfl) (by kernel_rfl) (Fr.refl _ _) ?_
      simp only [List.take_succ_cons, List.take_zero, List.drop_succ_cons, List.drop_zero]
      repeat (go_big_quiet_step (fail))
      refine wpQuiet_nil ?_
      rintro _ ⟨dd, rfl⟩
      go_wp2_with fail
      refine (HFX.out _ dd.fr).mono ?_
      intro e w5 hpost
      obtain ⟨rfl, hT⟩ := HST.out _ _ _ dd.fr hpost
      have HT := Lib.hid hT
      clear hpost hT
      go_wp2
      go_ret
      exact ⟨rfl, HT.out⟩
    · obtain ⟨A, cap, rfl⟩ := h.heap.shape
      have hne : hasK id S = false := by
        cases hx : hasK id S with
        | false => rfl
        | true =>
          obtain ⟨p, hp', e⟩ := hasK_iff.1 hx
          obtain ⟨x, hx, rfl⟩ := List.mem_map.1 (hp.mem_iff.2 hp')
          exact absurd e (hno x hx)
      simp only [if_true] at hlk
      by_cases hfull : L.length = 256
      · have e1 : setN S id at_ = 6 := by unfold setN; rw [hb, hne, hlS, hfull]; rfl
        have HR := Lib.hid (show TNext w q (setK S id at_) (ownT q m (.slice A L.length cap) L) w from ⟨ownT q m (.slice A L.length cap) L, by rw [show setK S id at_ = S by unfold setK; rw [e1]; rfl]; exact ⟨m, L, _, h, hp, ho, rfl⟩, Fr.refl _ _, fun _ hi => Or.inl hi⟩)
        rw [e1]
        rw [hfull] at c0
        clear h hp ho e1 hno hne
        go_enter Try.func10, Try.ntmps10
        go_wp2_with fail
        refine (H20.out _).mono ?_
        rintro e w1 ⟨rfl, rfl⟩
        go_wp2_with fail
        refine (H20'.out _).mono ?_
        rintro e w1 ⟨rfl, rfl⟩
        go_wp2
        go_ret
        exact ⟨rfl, HR.out⟩
      · have b1 : ((L.length : Int) == 256) = false := by simp; omega
        have hsn : setN S id at_ = 0 := by
          unfold setN; rw [hb, hne]
          have : (S.length == 256) = false := by simp; omega
          rw [this]; rfl
        have esk : setK S id at_ = insK (at_, id) (remK id S) := by unfold setK; rw [if_pos hsn]
        rw [hsn, esk]
        have hfa : Fr (fun _ => False) w (w.alloc (.cells #[.int .i64 at_, .int .i64 id, .int .i64 0] 56)) := (Fr.refl _ w).alloc _
        have HPU := Lib.hid (push22_any _ 0 q (.map (some m)) L _ (h.heap.fr0 hfa) h.hN (by omega) w.heap.size at_ id 0 (Blk.new w 56 #[.int .i64 at_, .int .i64 id, .int .i64 0]) (Nat.zero_le _) (fun e he hx => by
          obtain ⟨j, hj, rfl⟩ := List.mem_iff_getElem.1 he
          have := (h.heap.ent j hj).lt
          omega) (Nat.zero_le _))
        have HMP := Lib.hid (h.map.fr hfa (fun h => h))
        have HN := Lib.hid (fun w1 w2 w3 L' v' h1 ha hL hh hf hv hm3 hg => h.set_new hp ho hno hb (by omega) (w1 := w1) (w2 := w2) (w3 := w3) (L' := L') (v' := v') h1 ha hL hh hf hv hm3 hg)
        have HFA := Lib.hid hfa
        have HMN := Lib.hid (show ¬ (m = q ∨ m = w.heap.size ∨ HS (.slice A L.length cap) L m) by
          rintro (h1 | h1 | h1)
          · exact h.m_not.1 h1
          · have := h.map.lt; omega
          · exact h.m_not.2 h1)
        have hl256 : L.length < 256 := by omega
        have hqlt := h.heap.blk.lt
        clear h hp ho esk hsn hno hne hb hfa
        go_enter Try.func10, Try.ntmps10
        go_wp2_with fail
        refine (H20.out _).mono ?_
        rintro e w1 ⟨rfl, rfl⟩
        go_wp2_with fail
        refine (H20'.out _).mono ?_
        rintro e w1 ⟨rfl, rfl⟩
        go_wp2_with fail
        refine HPU.out.mono ?_
        rintro e w5 ⟨L', v', rfl, ha, hL, hh, hf, hv⟩
        have c5 : w5.cell? ⟨q, 1, none⟩ = some (.map (some m)) := ha.blk.cell 1
        have HM5 := Lib.hid (HMP.out.fr hf HMN.out)
        have HN5 := Lib.hid (fun w6 => HN.out _ _ w6 _ _ HFA.out ha hL hh hf hv)
        clear ha hL hh hf hv
        go_wp2_with (at_mapUpdate; refine wpList_mapStore rfl _ _ _ 48 rfl 53 law3 Try.underlying48 rfl HM5.out (by rw [List.length_map]; unfold maxLen; omega) (.int .i64 id) (.pointer (some ⟨w.heap.size, 0, none⟩)) (.int .i64 id) rfl rfl (key3 hid) ?_; intro w6 hm6 hg6)
        go_ret
        exact ⟨rfl, HN5.out _ hm6 hg6⟩

set_option maxRecDepth 20000 in
set_option maxHeartbeats 2000000 in
theorem cancel12_any (w : World) (q : Nat) (S : List KeyD) (X : Nat → Prop) (h : TQ w q S X) (id : Int) (hid : wf64 id) :
    Calls Try.prog 12 #[.pointer (some ⟨q, 0, none⟩), .int .i64 id] w fun e w' => e = .returned (.bool (hasK id S)) ∧ TNext w q (remK id S) X w' := by
  obtain ⟨m, L, v, h, hp, ho, rfl⟩ := h
  have c1 := h.c1
  have hlS : S.length = L.length := by rw [← hp.length_eq, List.length_map]
  have hl := ho.le
  rcases h.look hid true with ⟨k, hk, e1, hlk⟩ | ⟨hno, hlk⟩
  · have hbl := h.heap.ent k hk
    have hx : L[k]? = some (L[k]'hk) := List.getElem?_eq_getElem hk
    obtain ⟨n, hn⟩ : ∃ n, L.length = n + 1 := ⟨L.length - 1, by omega⟩
    have hhas : hasK id S = true := by rw [← e1]; exact (rem_split hp ho.ids (perm_at L hk)).2
    rw [hhas]
    simp only [encE, if_true] at hlk
    have HRM := Lib.hid (fun wd (hd : Fr (fun _ => False) w wd) => remove24_any wd 0 q (.map (some m)) L v (h.heap.fr0 hd) n hn h.hN (by omega) k hk (L[k]'hk) hx)
    have HG := Lib.hid (fun w1 w2 w3 e h1 hpost => h.gone hp ho (x := L[k]'hk) (w1 := w1) (w2 := w2) (w3 := w3) (e := e) h1 hpost)
    rw [← e1]
    rw [← e1] at hid hlk
    clear hx hhas hn e1 hp ho
    have b2 := Later.cell (hbl.cell 2)
    generalize (L[k]'hk) = x at *
    clear h hbl
    go_enter Try.func12, Try.ntmps12
    go_wp2_with fail
    refine wp_region_later_tail w 8 (by kernel_rfl) (by kernel_rfl) (Fr.refl _ _) ?_
    simp only [List.take_succ_cons, List.take_zero, List.drop_succ_cons, List.drop_zero]
    repeat (go_big_quiet_step (fail))
    refine wpQuiet_nil ?_
    rintro _ ⟨dd, rfl⟩
    go_wp2_with fail
    refine (HRM.out _ dd.fr).mono ?_
    intro e w5 hpost
    obtain ⟨rfl, hm5, c5, _, _⟩ := HG.out _ w5 w5 _ dd.fr hpost
    have HG5 := Lib.hid (fun w6 => (HG.out _ w5 w6 _ dd.fr hpost).2.2.2.2 w5 (Fr.refl _ _))
    clear hpost
    obtain ⟨w6, hrun, hm6, hg6⟩ := hm5.drop law3 Try.underlying48 (key3 hid) 0
    have HE := Lib.hid (HG5.out _ hm6 hg6).2
    clear hm5 hm6 hg6
    go_wp2
    go_ret
    obtain ⟨X', p1, p2, p3⟩ := HE.out
    exact ⟨rfl, X', p1, p2, fun i hi => Or.inl (p3 i hi)⟩
  · have hne : hasK id S = false := by
      cases hx : hasK id S with
      | false => rfl
      | true =>
        obtain ⟨p, hp', e⟩ := hasK_iff.1 hx
        obtain ⟨x, hx, rfl⟩ := List.mem_map.1 (hp.mem_iff.2 hp')
        exact absurd e (hno x hx)
    rw [hne, remK_none hne]
    simp only [if_true] at hlk
    have HR := Lib.hid (show TNext w q S (ownT q m v L) w from ⟨ownT q m v L, ⟨m, L, v, h, hp, ho, rfl⟩, Fr.refl _ _, fun _ hi => Or.inl hi⟩)
    clear h hp ho hne hno
    go_enter Try.func12, Try.ntmps12
    go_wp2
    go_ret
    exact ⟨rfl, HR.out⟩

end Go.Proofs.Ytdlpiaglgdafoaa
