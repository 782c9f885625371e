/-
  The table: List.
-/
import Derived.Test.YtomoomopodihhaaPj
namespace Go.Proofs.Ytomoomopodihhaa
open Go.RowKit Go.Maps

theorem row_apart {w : World} {b b' e e' sz sz' n n' k : Nat} {v v' : Value} {xs xs' : List Value} (h : w.ownsRow b e sz v n xs) (h' : w.ownsRow b' e' sz' v' n' xs') (hne : e ≠ e') (hk : v.ownBlock = some k) : v'.ownBlock ≠ some k := fun hk' => by
  obtain ⟨c, hc⟩ := ownsRow_block h hk
  obtain ⟨c', hc'⟩ := ownsRow_block h' hk'
  rw [hc] at hc'
  cases hc'
  exact hne rfl

theorem info61 : (Try.prog.info? 61).map (fun i => (i.zero, i.size, i.bytes)) = some (some (.agg #[.int .i64 0, .int .i64 0, .int .i64 0, .int .i64 0, .int .i64 0, .slice none 0 0, .int .i64 0, .int .i64 0]), 8, 80) := by kernel_rfl

/-- A slice of tasks, with their cores, all above block B. -/
structure Tasks (w : World) (B : Nat) (v : Value) (T : List TaskD) : Prop where
  row : w.ownsRow B 61 8 v T.length (T.flatMap TaskD.cells)
  cor : ∀ x ∈ T, w.ownsRow B 3 1 x.cv x.ns.length (rowI x.ns)
  nl : ∀ x ∈ T, x.ns.length ≤ 100000

theorem Tasks.fr {S : Nat → Prop} {w w' : World} {B : Nat} {v : Value} {T : List TaskD} (h : Tasks w B v T) (hf : Fr S w w') (hs : ∀ i, B ≤ i → ¬ S i) : Tasks w' B v T :=
  ⟨ownsRow_fr h.row hf (fun k hk => hs k (h.row.lt k hk).1), fun x hx => ownsRow_fr (h.cor x hx) hf (fun k hk => hs k ((h.cor x hx).lt k hk).1), h.nl⟩
theorem Tasks.fr0 {w w' : World} {B : Nat} {v : Value} {T : List TaskD} (h : Tasks w B v T) (hf : Fr (fun _ => False) w w') : Tasks w' B v T := h.fr hf (fun _ _ h => h)

theorem Tasks.base {w : World} {B B' : Nat} {v : Value} {T : List TaskD} (h : Tasks w B v T) (hB : B' ≤ B) : Tasks w B' v T :=
  ⟨ownsRow_base_a' h.row hB, fun x hx => ownsRow_base_a' (h.cor x hx) hB, h.nl⟩

theorem Tasks.push {w w2 w3 : World} {B : Nat} {v v' : Value} {T : List TaskD} {x : TaskD} (h : Tasks w B v T) (h2 : Fr (fun _ => False) w w2) (hx : w2.ownsRow B 3 1 x.cv x.ns.length (rowI x.ns)) (hn : x.ns.length ≤ 100000)
    (hown : w3.ownsRow B 61 8 v' (T.length + 1) (T.flatMap TaskD.cells ++ x.cells)) (hg : w2.grownBy w3 v.ownBlock) : Tasks w3 B v' (T ++ [x]) := by
  have hF : Fr (fun k => v.ownBlock = some k) w2 w3 := Fr.of_grown hg (fun k hk => hk)
  have hr2 := ownsRow_fr h.row h2 (fun _ _ h => h)
  refine ⟨?_, fun y hy => ?_, fun y hy => ?_⟩
  · rw [List.length_append, List.flatMap_append, List.flatMap_singleton]
    exact hown
  · rcases List.mem_append.1 hy with hy | hy
    · exact ownsRow_fr (ownsRow_fr (h.cor y hy) h2 (fun _ _ h => h)) hF (fun k hk hk' => row_apart hr2 (ownsRow_fr (h.cor y hy) h2 (fun _ _ h => h)) (by decide) hk' hk)
    · rw [List.mem_singleton] at hy; subst hy
      exact ownsRow_fr hx hF (fun k hk hk' => row_apart hr2 hx (by decide) hk' hk)
  · rcases List.mem_append.1 hy with hy | hy
    · exact h.nl y hy
    · rw [List.mem_singleton] at hy; subst hy; exact hn

def ListPost (w : World) (K : List (TaskD × Int)) (e : Ending) (w' : World) : Prop := ∃ v T, e = .returned v ∧ Tasks w' w.heap.size v T ∧ T.map TaskD.abs = K.map (·.1) ∧ Fr (fun _ => False) w w'

def ListRel (w w2 : World) (M : List ProcE) (lv i : Value) (wr : World) : Prop := ∃ (k : Nat) (T : List TaskD), k ≤ M.length ∧ i = .int .i64 k ∧ T.length = k ∧ T.map TaskD.abs = (M.take k).map (fun e => e.t.abs) ∧ Tasks wr w2.heap.size lv T ∧ Fr (fun _ => False) w2 wr

theorem list36_nil (w : World) : Calls Try.prog 36 #[.pointer none] w fun e w' => e = .returned (.slice none 0 0) ∧ w = w' := by
  go_enter Try.func36, Try.ntmps36
  go_wp2
  go_ret
  exact ⟨rfl, rfl⟩

set_option maxRecDepth 20000 in
set_option maxHeartbeats 2000000 in
theorem list36_any (w : World) (t : Nat) (K : List (TaskD × Int)) (last : Int) (X : Nat → Prop) (h : PT w t K last X) :
    Calls Try.prog 36 #[.pointer (some ⟨t, 0, none⟩)] w (ListPost w K) := by
  obtain ⟨i0, hi, hz0, hz1, hz2⟩ := info_parts info61
  obtain ⟨m, M, hT, rfl, rfl⟩ := h
  have H55 := Lib.hid (keys55_any (some m) w)
  have H48 := Lib.hid (sorted48_any w t m M last hT)
  have c0 := hT.c0
  have HT := Lib.hid hT
  have hMl := hT.le
  clear hT
  go_enter Try.func36, Try.ntmps36
  go_wp2_with fail
  refine H55.out.mono ?_
  rintro e w1 ⟨rfl, rfl⟩
  go_wp2_with fail
  refine H48.out.mono ?_
  rintro e w2 ⟨v, rfl, hrow, hf⟩
  have hi2 := IntsV.of_row hrow
  obtain ⟨A, cap, hv⟩ := hi2.sh
  rw [List.length_map] at hv
  subst hv
  have HF2 := Lib.hid (((Fr.refl (fun _ => False) w).alloc (.cells #[.map (some m)] 86)).then hf)
  have HK := Lib.hid (fun W (hW : Fr (fun _ => False) w2 W) k (hk : k < M.length) => show ∃ b o, A = some ⟨b, o, none⟩ ∧ W.cell? ⟨b, o + k, none⟩ = some (.int .i64 (M[k]'hk).t.pid) by
    obtain ⟨A', c', e', hc'⟩ := hi2.fr0 hW
    simp only [Value.slice.injEq] at e'
    obtain ⟨rfl, _, rfl⟩ := e'
    obtain ⟨b, o, e2, hc⟩ := hc' k (by rw [List.length_map]; exact hk)
    rw [List.getElem_map] at hc
    exact ⟨b, o, e2, hc⟩)
  have h0 : ListRel w w2 M (.slice none 0 0) (.int .i64 (0 : Nat)) w2 := ⟨0, [], Nat.zero_le _, rfl, rfl, rfl, ⟨World.ownsRow_nil _ _ _ _, (fun x hx => by cases hx), (fun x hx => by cases hx)⟩, Fr.refl _ _⟩
  have H0 := Lib.hid h0
  clear hrow hf hi2 h0 c0
  go_wp2_with fail
  go_loopw [3, 16] (fun lv i wr => ListRel w w2 M lv i wr) (fun _ i _ => M.length - (intOf i).toNat)
  case atStart => exact H0.out
  case round =>
    obtain ⟨k, T, hk, rfl, hTk, hTa, hTs, hf⟩ := hrel
    subst hTk
    have hfw := HF2.out.then hf
    by_cases hlt : T.length < M.length
    · obtain ⟨b, o, rfl, ck⟩ := HK.out _ hf T.length hlt
      have hTw := HT.out.fr0 hfw
      have he := List.getElem_mem hlt
      have hbx := hTw.ent _ he
      have hcor := hTw.cor _ he
      have hnl := hTw.nl _ he
      have hwf := hTw.wf he
      have c0 := hTw.c0
      have hlook := (hTw.look hwf false)
      have hsn : (M.take (T.length + 1)).map (fun e => e.t.abs) = (M.take T.length).map (fun e => e.t.abs) ++ [(M[T.length]'hlt).t.abs] := by
        rw [List.take_succ_eq_append_getElem hlt, List.map_append]; rfl
      have hlk : (Instr.lookup 86 (.map (some m)) (.int .i64 (M[T.length]'hlt).t.pid) false).run Try.prog wr = .ok (.pointer (some ⟨(M[T.length]'hlt).blk, 0, none⟩)) wr := by
        rcases hlook with ⟨e2, he2, hp2, h2⟩ | ⟨hno, _⟩
        · rw [hTw.uniq he2 he hp2] at h2
          exact h2
        · exact absurd rfl (hno _ he)
      clear hlook
      obtain ⟨A3, cap3, rfl⟩ := row_shape hTs.row
      generalize M[T.length] = x at *
      obtain ⟨xb, ⟨pid, job, epoch, step, rank, cv, ns, state, code⟩, sg⟩ := x
      simp only [ProcE.cells] at *
      have hbl := hbx.lt
      obtain ⟨A9, cap9, rfl⟩ := row_shape hcor
      obtain ⟨z0, z1, z2, z3, z4, z5, z6, z7⟩ := pc9 hbx
      have hfa : Fr (fun _ => False) wr (wr.alloc (.cells #[.int .i64 pid, .int .i64 job, .int .i64 epoch, .int .i64 step, .int .i64 rank, .slice A9 ns.length cap9, .int .i64 state, .int .i64 code] 61)) := (Fr.refl _ wr).alloc _
      have C56 := Lib.hid (clone56_any _ _ ns (coresOk_row (ownsRow_fr hcor hfa (fun _ _ h => h)) hnl))
      have HBX := Lib.hid (Blk.new wr 61 #[.int .i64 pid, .int .i64 job, .int .i64 epoch, .int .i64 step, .int .i64 rank, .slice A9 ns.length cap9, .int .i64 state, .int .i64 code])
      have HTS := Lib.hid hTs
      have HF := Lib.hid hf
      have HFA := Lib.hid hfa
      have HTA := Lib.hid hTa
      have hszw := hfw.size
      have hTle : T.length ≤ 256 := by omega
      clear hTs hf hfa hTa hcor hbx hTw he hfw
      go_wp2_with fail
      refine C56.out.mono ?_
      rintro e w5 ⟨v', rfl, hrow5, hf5⟩
      obtain ⟨A8, cap8, rfl⟩ := row_shape hrow5
      have hb5 := HBX.out.fr hf5 (fun h => h)
      have f5 := hb5.frozen 5
      have d5 : w5.cell? ⟨wr.heap.size, 5, none⟩ = some (.slice A9 ns.length cap9) := hb5.cell 5
      have hF6 : Fr (fun _ => False) wr (w5.setCell ⟨wr.heap.size, 5, none⟩ (.slice A8 ns.length cap8)) := ((HFA.out.then hf5).setCell (p := ⟨wr.heap.size, 5, none⟩) (Or.inr (Nat.le_refl _)) _)
      have hb6 : Blk (w5.setCell ⟨wr.heap.size, 5, none⟩ (.slice A8 ns.length cap8)) wr.heap.size 61 #[.int .i64 pid, .int .i64 job, .int .i64 epoch, .int .i64 step, .int .i64 rank, .slice A8 ns.length cap8, .int .i64 state, .int .i64 code] := hb5.set_ 5 _
      have hB5 := HBX.out.lt
      have hx6 : (w5.setCell ⟨wr.heap.size, 5, none⟩ (.slice A8 ns.length cap8)).ownsRow w2.heap.size 3 1 (.slice A8 ns.length cap8) ns.length (rowI ns) := ownsRow_base_a' (ownsRow_fr hrow5 ((Fr.refl (fun i => i = wr.heap.size) w5).setCell (p := ⟨wr.heap.size, 5, none⟩) (Or.inl rfl) _) (fun k hk e => by have := (hrow5.lt k hk).1; omega)) (by have := HF.out.size; have := HFA.out.size; omega)
      have HX6 := Lib.hid hx6
      have HF6 := Lib.hid hF6
      have hrow6 := (HTS.out.fr0 hF6).row
      have hsz6 := hF6.size
      have hszr := HF.out.size
      have hnw := news_one (w5.setCell ⟨wr.heap.size, 5, none⟩ (.slice A8 ns.length cap8)) 61 [.int .i64 pid, .int .i64 job, .int .i64 epoch, .int .i64 step, .int .i64 rank, .slice A8 ns.length cap8, .int .i64 state, .int .i64 code]
      have hz5 : (w5.setCell ⟨wr.heap.size, 5, none⟩ (.slice A8 ns.length cap8)).heap.size = w5.heap.size := by simp [World.setCell]
      rw [hz5] at hnw
      obtain ⟨y0, y1, y2, y3, y4, y5, y6, y7⟩ := tc hb6
      clear hb5 hb6 hx6 hF6 hrow5 hf5 z0 z1 z2 z3 z4 z5 z6 z7
      go_wp2_with (at_builtin; refine wpList_append_own_at _ rfl _ _ 56 rfl w2.heap.size 61 i0 (.agg #[.int .i64 0, .int .i64 0, .int .i64 0, .int .i64 0, .int .i64 0, .slice none 0 0, .int .i64 0, .int .i64 0]) 8 80 Try.underlying56 hi hz0 hz1 hz2 rfl (by decide) _ _ _ rfl (hrow6.alloc _) ⟨w5.heap.size, 0, none⟩ 1 1 [.int .i64 pid, .int .i64 job, .int .i64 epoch, .int .i64 step, .int .i64 rank, .slice A8 ns.length cap8, .int .i64 state, .int .i64 code] rfl rfl hnw (by simp [Value.oneCell']) (by unfold maxLen; omega) (by omega) (by simp only [World.size_alloc]; omega) ?_; intro v7 w7 hown7 hgrow7 hne7 hat7; obtain ⟨g7, cap7, rfl⟩ := row_succ hown7)
      go_roundw
      case rel =>
        have hP := HTS.out.push (x := ⟨pid, job, epoch, step, rank, .slice A8 ns.length cap8, ns, state, code⟩) (HF6.out.alloc _) (HX6.out.alloc _) hnl hown7 hgrow7
        refine ⟨T.length + 1, _, by omega, by go_num, by rw [List.length_append, List.length_singleton], ?_, hP, ((HF.out.then HF6.out).alloc _).grown hgrow7 (fun k hk => Or.inr (HTS.out.row.lt k hk).1)⟩
        rw [List.map_append, HTA.out, hsn]
        rfl
      case measure => simp [intOf]; omega
    · have hkm : T.length = M.length := by omega
      rw [hkm, List.take_length] at hTa
      obtain ⟨A3, cap3, rfl⟩ := row_shape hTs.row
      have HR := Lib.hid (show ListPost w (M.map ProcE.abs) (.returned (.slice A3 T.length cap3)) wr from ⟨_, T, rfl, hTs.base HF2.out.size, by rw [hTa, List.map_map]; rfl, hfw⟩)
      clear hTs hTa hf hfw
      go_wp2
      go_ret
      exact HR.out

end Go.Proofs.Ytomoomopodihhaa
