/-
  The reference's table: Signal.
-/
import Derived.Test.YtomoomopodihhaaPn
namespace Go.Proofs.Ytomoomopodihhaa
open Go.RowKit Go.Maps

section
variable {w : World} {k : Nat} {lv : Value} {N : Int} {T : List TaskD} {G : List Int} {g cap : Nat}
theorem RTab.setG (h : RTab w k lv (.slice (some ⟨g, 0, none⟩) G.length cap) N T G) {i : Nat} (s : Int) :
    RTab (w.setCell ⟨g, i, none⟩ (.int .i64 s)) k lv (.slice (some ⟨g, 0, none⟩) (G.set i s).length cap) N T (G.set i s) := by
  have hgk : k ≠ g := fun e => by
    obtain ⟨cur, hcur⟩ := ownsRow_block h.sig (k := g) rfl
    have hb := h.blk
    unfold Blk at hb
    rw [e, hcur] at hb
    cases hb
  have hF : Fr (fun b => b = g) w (w.setCell ⟨g, i, none⟩ (.int .i64 s)) := (Fr.refl (fun b => b = g) w).setCell (p := ⟨g, i, none⟩) (Or.inl rfl) _
  refine ⟨by rw [List.length_set]; exact h.blk.fr hF hgk, ownsRow_fr h.row hF (fun b hb e => row_apart h.sig h.row (by decide) (k := g) rfl (e ▸ hb)), ?_, by rw [List.length_set]; exact h.len, fun x hx => ownsRow_fr (h.cor x hx) hF (fun b hb e => h.sep x hx b hb (e ▸ rfl)), h.nl, fun x hx b hb => h.sep x hx b hb⟩
  have := (h.sig.stored i (.int .i64 s)).1
  rw [List.length_set]
  unfold rowI at this ⊢
  rw [List.map_set]
  exact this
end


set_option maxRecDepth 20000 in
set_option maxHeartbeats 3000000 in
theorem rsig52_any (w : World) (k n : Nat) (Y : Nat → Prop) (h : RT w k n Y) (hn : n ≤ 1000) (pid s : Int) :
    Calls Try.prog 52 #[.pointer (some ⟨k, 0, none⟩), .int .i64 pid, .int .i64 s] w (NumPost w k n Y) := by
  have HS := Lib.hid (fun w' (hf : Fr (fun _ => False) w w') => RNx.same h hf)
  obtain ⟨lv, sv, N, T, G, hR, h2, h3, h4, rfl⟩ := h
  have HA := Lib.hid (at66_any w k lv sv N T G hR (by omega) pid)
  have HR := Lib.hid hR
  clear hR
  go_enter Try.func52, Try.ntmps52
  go_wp2_with fail
  refine HA.out.mono ?_
  rintro e w1 ⟨hf, rfl | ⟨i, hi, rfl⟩⟩
  · have HE := Lib.hid (HS.out _ hf)
    go_wp2
    go_ret
    exact ⟨_, rfl, HE.out⟩
  · have hr := HR.out.fr0 hf
    have hiG : i < G.length := by rw [hr.len]; exact hi
    obtain ⟨g, cap, rfl, hc⟩ := task_cell hr.row hi
    obtain ⟨gs, caps, rfl, cs⟩ := row_elem1 (fun x : Int => Value.int .i64 x) hr.sig hiG
    have c0 : w1.cell? ⟨k, 0, none⟩ = some (.slice (some ⟨g, 0, none⟩) T.length cap) := hr.blk.cell 0
    have c1 : w1.cell? ⟨k, 1, none⟩ = some (.slice (some ⟨gs, 0, none⟩) G.length caps) := hr.blk.cell 1
    have c6 := hc 6 _ (by omega) rfl
    have c7 := hc 7 _ (by omega) rfl
    obtain ⟨cur, hcur⟩ := ownsRow_block hr.row (k := g) rfl
    obtain ⟨curs, hcurs⟩ := ownsRow_block hr.sig (k := gs) rfl
    have f6 : w1.frozen? ⟨g, i * 8 + 6, none⟩ = false := Blk.frozen (t := 61) (cs := cur) hcur _
    have f7 : w1.frozen? ⟨g, i * 8 + 7, none⟩ = false := Blk.frozen (t := 61) (cs := cur) hcur _
    have fs : w1.frozen? ⟨gs, i, none⟩ = false := Blk.frozen (t := 3) (cs := curs) hcurs _
    have hkg : k ≠ g := fun e => by
      have hb := hr.blk
      unfold Blk at hb
      rw [e, hcur] at hb
      cases hb
    have hgg : g ≠ gs := fun e => by
      rw [e, hcurs] at hcur
      cases hcur
    have hx1 := hr.setT hi (j := 6) (by omega) (.int .i64 2) { T[i] with state := 2 } rfl rfl rfl
    have HX := Lib.hid (hx1.setT (i := i) (by rw [List.length_set]; exact hi) (j := 7) (by omega) (.int .i64 137) { T[i] with state := 2, code := 137 } (by rw [List.getElem_set_self]; rfl) (by rw [List.getElem_set_self]) (by rw [List.getElem_set_self]))
    have HR1 := Lib.hid hr
    have HF := Lib.hid hf
    have HE := Lib.hid (HS.out _ hf)
    have hTG := hr.len
    clear hr hc hcur hcurs hf hx1
    by_cases hbad : (s != 15 && s != 9) = true
    · have hb1 : (s != 15) = true := by
        cases h9 : (s != 15)
        · rw [h9] at hbad; cases hbad
        · rfl
      have hb2 : (s != 9) = true := by
        rw [hb1] at hbad
        exact hbad
      clear hbad
      go_wp2
      go_ret
      exact ⟨_, rfl, HE.out⟩
    · rcases sgn_two (by simpa using hbad) with rfl | rfl
      · clear hbad
        cases hs2 : ((T[i]'hi).state == 2) with
        | true =>
          generalize (T[i]'hi).state = st at *
          go_wp2
          go_ret
          exact ⟨_, rfl, HE.out⟩
        | false =>
          cases hs0 : ((T[i]'hi).state == 0) with
          | true =>
            cases hs9 : ((G[i]'hiG) != 9) with
            | true =>
              have HD := Lib.hid (show RNx w k n (ownR k (.slice (some ⟨g, 0, none⟩) T.length cap) (.slice (some ⟨gs, 0, none⟩) G.length caps) T) (w1.setCell ⟨gs, i, none⟩ (.int .i64 15)) from
                ⟨_, ⟨_, _, N, _, _, (RTab.setG (HR1.out) (i := i) 15), h2, h3, h4, rfl⟩, ((HF.out.mono (S' := ownR k (.slice (some ⟨g, 0, none⟩) T.length cap) (.slice (some ⟨gs, 0, none⟩) G.length caps) T) (fun _ _ h => h.elim)).setCell (p := ⟨gs, i, none⟩) (Or.inl (Or.inr (Or.inr (Or.inl rfl)))) _), fun b hb => Or.inl (by
                      have hb : ownR k (.slice (some ⟨g, 0, none⟩) T.length cap) (.slice (some ⟨gs, 0, none⟩) G.length caps) T b := hb
                      exact hb)⟩)
              generalize (T[i]'hi).state = st at *
              generalize (T[i]'hi).code = cd at *
              generalize (G[i]'hiG) = sg at *
              go_wp2
              go_ret
              exact ⟨_, rfl, HD.out⟩
            | false =>
              have HD := Lib.hid (show RNx w k n (ownR k (.slice (some ⟨g, 0, none⟩) T.length cap) (.slice (some ⟨gs, 0, none⟩) G.length caps) T) w1 from
                ⟨_, ⟨_, _, N, _, _, HR1.out, h2, h3, h4, rfl⟩, (HF.out.mono (S' := ownR k (.slice (some ⟨g, 0, none⟩) T.length cap) (.slice (some ⟨gs, 0, none⟩) G.length caps) T) (fun _ _ h => h.elim)), fun b hb => Or.inl (by
                      have hb : ownR k (.slice (some ⟨g, 0, none⟩) T.length cap) (.slice (some ⟨gs, 0, none⟩) G.length caps) T b := hb
                      exact hb)⟩)
              generalize (T[i]'hi).state = st at *
              generalize (T[i]'hi).code = cd at *
              generalize (G[i]'hiG) = sg at *
              go_wp2
              go_ret
              exact ⟨_, rfl, HD.out⟩
          | false =>
            cases hs9 : ((G[i]'hiG) != 9) with
            | true =>
              have HD := Lib.hid (show RNx w k n (ownR k (.slice (some ⟨g, 0, none⟩) T.length cap) (.slice (some ⟨gs, 0, none⟩) G.length caps) T) (w1.setCell ⟨gs, i, none⟩ (.int .i64 15)) from
                ⟨_, ⟨_, _, N, _, _, (RTab.setG (HR1.out) (i := i) 15), h2, h3, h4, rfl⟩, ((HF.out.mono (S' := ownR k (.slice (some ⟨g, 0, none⟩) T.length cap) (.slice (some ⟨gs, 0, none⟩) G.length caps) T) (fun _ _ h => h.elim)).setCell (p := ⟨gs, i, none⟩) (Or.inl (Or.inr (Or.inr (Or.inl rfl)))) _), fun b hb => Or.inl (by
                      have hb : ownR k (.slice (some ⟨g, 0, none⟩) T.length cap) (.slice (some ⟨gs, 0, none⟩) G.length caps) T b := hb
                      exact hb)⟩)
              generalize (T[i]'hi).state = st at *
              generalize (T[i]'hi).code = cd at *
              generalize (G[i]'hiG) = sg at *
              go_wp2
              go_ret
              exact ⟨_, rfl, HD.out⟩
            | false =>
              have HD := Lib.hid (show RNx w k n (ownR k (.slice (some ⟨g, 0, none⟩) T.length cap) (.slice (some ⟨gs, 0, none⟩) G.length caps) T) w1 from
                ⟨_, ⟨_, _, N, _, _, HR1.out, h2, h3, h4, rfl⟩, (HF.out.mono (S' := ownR k (.slice (some ⟨g, 0, none⟩) T.length cap) (.slice (some ⟨gs, 0, none⟩) G.length caps) T) (fun _ _ h => h.elim)), fun b hb => Or.inl (by
                      have hb : ownR k (.slice (some ⟨g, 0, none⟩) T.length cap) (.slice (some ⟨gs, 0, none⟩) G.length caps) T b := hb
                      exact hb)⟩)
              generalize (T[i]'hi).state = st at *
              generalize (T[i]'hi).code = cd at *
              generalize (G[i]'hiG) = sg at *
              go_wp2
              go_ret
              exact ⟨_, rfl, HD.out⟩
      · clear hbad
        cases hs2 : ((T[i]'hi).state == 2) with
        | true =>
          generalize (T[i]'hi).state = st at *
          go_wp2
          go_ret
          exact ⟨_, rfl, HE.out⟩
        | false =>
          cases hs0 : ((T[i]'hi).state == 0) with
          | true =>
            cases hs9 : ((G[i]'hiG) != 9) with
            | true =>
              have HD := Lib.hid (show RNx w k n (ownR k (.slice (some ⟨g, 0, none⟩) T.length cap) (.slice (some ⟨gs, 0, none⟩) G.length caps) T) (((w1.setCell ⟨g, i * 8 + 6, none⟩ (.int .i64 2)).setCell ⟨g, i * 8 + 7, none⟩ (.int .i64 137)).setCell ⟨gs, i, none⟩ (.int .i64 9)) from
                ⟨_, ⟨_, _, N, _, _, (RTab.setG (HX.out) (i := i) 9), by rw [List.length_set, List.length_set]; exact h2, h3, h4, rfl⟩, ((((HF.out.mono (S' := ownR k (.slice (some ⟨g, 0, none⟩) T.length cap) (.slice (some ⟨gs, 0, none⟩) G.length caps) T) (fun _ _ h => h.elim)).setCell (p := ⟨g, i * 8 + 6, none⟩) (Or.inl (Or.inr (Or.inl rfl))) _).setCell (p := ⟨g, i * 8 + 7, none⟩) (Or.inl (Or.inr (Or.inl rfl))) _).setCell (p := ⟨gs, i, none⟩) (Or.inl (Or.inr (Or.inr (Or.inl rfl)))) _), fun b hb => Or.inl (by
                      have hb : ownR k (.slice (some ⟨g, 0, none⟩) ((T.set i { T[i] with state := 2 }).set i { T[i] with state := 2, code := 137 }).length cap) (.slice (some ⟨gs, 0, none⟩) G.length caps) ((T.set i { T[i] with state := 2 }).set i { T[i] with state := 2, code := 137 }) b := hb
                      rw [List.set_set] at hb
                      exact ownR_set (x' := { T[i] with state := 2, code := 137 }) (hi := hi) rfl hb)⟩)
              generalize (T[i]'hi).state = st at *
              generalize (T[i]'hi).code = cd at *
              generalize (G[i]'hiG) = sg at *
              go_wp2
              go_ret
              exact ⟨_, rfl, HD.out⟩
            | false =>
              have HD := Lib.hid (show RNx w k n (ownR k (.slice (some ⟨g, 0, none⟩) T.length cap) (.slice (some ⟨gs, 0, none⟩) G.length caps) T) ((w1.setCell ⟨g, i * 8 + 6, none⟩ (.int .i64 2)).setCell ⟨g, i * 8 + 7, none⟩ (.int .i64 137)) from
                ⟨_, ⟨_, _, N, _, _, HX.out, by rw [List.length_set, List.length_set]; exact h2, h3, h4, rfl⟩, (((HF.out.mono (S' := ownR k (.slice (some ⟨g, 0, none⟩) T.length cap) (.slice (some ⟨gs, 0, none⟩) G.length caps) T) (fun _ _ h => h.elim)).setCell (p := ⟨g, i * 8 + 6, none⟩) (Or.inl (Or.inr (Or.inl rfl))) _).setCell (p := ⟨g, i * 8 + 7, none⟩) (Or.inl (Or.inr (Or.inl rfl))) _), fun b hb => Or.inl (by
                      have hb : ownR k (.slice (some ⟨g, 0, none⟩) ((T.set i { T[i] with state := 2 }).set i { T[i] with state := 2, code := 137 }).length cap) (.slice (some ⟨gs, 0, none⟩) G.length caps) ((T.set i { T[i] with state := 2 }).set i { T[i] with state := 2, code := 137 }) b := hb
                      rw [List.set_set] at hb
                      exact ownR_set (x' := { T[i] with state := 2, code := 137 }) (hi := hi) rfl hb)⟩)
              generalize (T[i]'hi).state = st at *
              generalize (T[i]'hi).code = cd at *
              generalize (G[i]'hiG) = sg at *
              go_wp2
              go_ret
              exact ⟨_, rfl, HD.out⟩
          | false =>
            cases hs9 : ((G[i]'hiG) != 9) with
            | true =>
              have HD := Lib.hid (show RNx w k n (ownR k (.slice (some ⟨g, 0, none⟩) T.length cap) (.slice (some ⟨gs, 0, none⟩) G.length caps) T) (w1.setCell ⟨gs, i, none⟩ (.int .i64 9)) from
                ⟨_, ⟨_, _, N, _, _, (RTab.setG (HR1.out) (i := i) 9), h2, h3, h4, rfl⟩, ((HF.out.mono (S' := ownR k (.slice (some ⟨g, 0, none⟩) T.length cap) (.slice (some ⟨gs, 0, none⟩) G.length caps) T) (fun _ _ h => h.elim)).setCell (p := ⟨gs, i, none⟩) (Or.inl (Or.inr (Or.inr (Or.inl rfl)))) _), fun b hb => Or.inl (by
                      have hb : ownR k (.slice (some ⟨g, 0, none⟩) T.length cap) (.slice (some ⟨gs, 0, none⟩) G.length caps) T b := hb
                      exact hb)⟩)
              generalize (T[i]'hi).state = st at *
              generalize (T[i]'hi).code = cd at *
              generalize (G[i]'hiG) = sg at *
              go_wp2
              go_ret
              exact ⟨_, rfl, HD.out⟩
            | false =>
              have HD := Lib.hid (show RNx w k n (ownR k (.slice (some ⟨g, 0, none⟩) T.length cap) (.slice (some ⟨gs, 0, none⟩) G.length caps) T) w1 from
                ⟨_, ⟨_, _, N, _, _, HR1.out, h2, h3, h4, rfl⟩, (HF.out.mono (S' := ownR k (.slice (some ⟨g, 0, none⟩) T.length cap) (.slice (some ⟨gs, 0, none⟩) G.length caps) T) (fun _ _ h => h.elim)), fun b hb => Or.inl (by
                      have hb : ownR k (.slice (some ⟨g, 0, none⟩) T.length cap) (.slice (some ⟨gs, 0, none⟩) G.length caps) T b := hb
                      exact hb)⟩)
              generalize (T[i]'hi).state = st at *
              generalize (T[i]'hi).code = cd at *
              generalize (G[i]'hiG) = sg at *
              go_wp2
              go_ret
              exact ⟨_, rfl, HD.out⟩

end Go.Proofs.Ytomoomopodihhaa
