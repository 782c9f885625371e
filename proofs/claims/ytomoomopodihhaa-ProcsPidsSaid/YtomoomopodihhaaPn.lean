/-
  The reference's table: Exit.
-/
import Derived.Test.YtomoomopodihhaaPm
namespace Go.Proofs.Ytomoomopodihhaa
open Go.RowKit Go.Maps

set_option maxRecDepth 20000 in
set_option maxHeartbeats 1000000 in
theorem rext53_any (w : World) (k n : Nat) (Y : Nat → Prop) (h : RT w k n Y) (hn : n ≤ 1000) (pid c : Int) :
    Calls Try.prog 53 #[.pointer (some ⟨k, 0, none⟩), .int .i64 pid, .int .i64 c] w (NumPost w k n Y) := by
  have HS := Lib.hid (fun w' (hf : Fr (fun _ => False) w w') => RNx.same h hf)
  obtain ⟨lv, sv, N, T, G, hR, h2, h3, h4, rfl⟩ := h
  have HA := Lib.hid (at66_any w k lv sv N T G hR (by omega) pid)
  have HR := Lib.hid hR
  clear hR
  go_enter Try.func53, Try.ntmps53
  go_wp2_with fail
  refine HA.out.mono ?_
  rintro e w1 ⟨hf, rfl | ⟨i, hi, rfl⟩⟩
  · have HE := Lib.hid (HS.out _ hf)
    go_wp2
    go_ret
    exact ⟨_, rfl, HE.out⟩
  · have hr := HR.out.fr0 hf
    obtain ⟨g, cap, rfl, hc⟩ := task_cell hr.row hi
    have c0 : w1.cell? ⟨k, 0, none⟩ = some (.slice (some ⟨g, 0, none⟩) T.length cap) := hr.blk.cell 0
    have c6 := hc 6 _ (by omega) rfl
    have c7 := hc 7 _ (by omega) rfl
    obtain ⟨cur, hcur⟩ := ownsRow_block hr.row (k := g) rfl
    have f6 : w1.frozen? ⟨g, i * 8 + 6, none⟩ = false := Blk.frozen (t := 61) (cs := cur) hcur _
    have f7 : w1.frozen? ⟨g, i * 8 + 7, none⟩ = false := Blk.frozen (t := 61) (cs := cur) hcur _
    have hkg : k ≠ g := fun e => by
      have hb := hr.blk
      unfold Blk at hb
      rw [e, hcur] at hb
      cases hb
    have hx1 := hr.setT hi (j := 6) (by omega) (.int .i64 2) { T[i] with state := 2 } rfl rfl rfl
    have HX := Lib.hid (hx1.setT (i := i) (by rw [List.length_set]; exact hi) (j := 7) (by omega) (.int .i64 c) { T[i] with state := 2, code := c } (by rw [List.getElem_set_self]; rfl) (by rw [List.getElem_set_self]) (by rw [List.getElem_set_self]))
    have HF := Lib.hid hf
    have HE := Lib.hid (HS.out _ hf)
    clear hr hc hcur hf hx1
    by_cases hc0 : c < 0
    · go_wp2
      go_ret
      exact ⟨_, rfl, HE.out⟩
    · by_cases hc1 : c > 255
      · go_wp2
        go_ret
        exact ⟨_, rfl, HE.out⟩
      · cases hs : ((T[i]'hi).state != 1) with
        | true =>
          generalize (T[i]'hi).state = st at *
          go_wp2
          go_ret
          exact ⟨_, rfl, HE.out⟩
        | false =>
          have HD := Lib.hid (show RNx w k n (ownR k (.slice (some ⟨g, 0, none⟩) T.length cap) sv T) ((w1.setCell ⟨g, i * 8 + 6, none⟩ (.int .i64 2)).setCell ⟨g, i * 8 + 7, none⟩ (.int .i64 c)) from
            ⟨_, ⟨_, sv, N, _, G, HX.out, by rw [List.length_set, List.length_set]; exact h2, h3, h4, rfl⟩, ((HF.out.mono (fun _ _ h => h.elim)).setCell (p := ⟨g, i * 8 + 6, none⟩) (Or.inl (Or.inr (Or.inl rfl))) _).setCell (p := ⟨g, i * 8 + 7, none⟩) (Or.inl (Or.inr (Or.inl rfl))) _, fun b hb => Or.inl (by
              rw [List.set_set] at hb
              exact ownR_set (x' := { T[i] with state := 2, code := c }) (hi := hi) rfl hb)⟩)
          generalize (T[i]'hi).state = st at *
          generalize (T[i]'hi).code = cd at *
          go_wp2
          go_ret
          exact ⟨_, rfl, HD.out⟩

end Go.Proofs.Ytomoomopodihhaa
