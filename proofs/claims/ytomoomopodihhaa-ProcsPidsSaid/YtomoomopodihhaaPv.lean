/-
  The program's table above a block; 'live'.
-/
import Derived.Test.YtomoomopodihhaaPs
import Derived.Test.YtomoomopodihhaaPk
namespace Go.Proofs.Ytomoomopodihhaa
open Go.RowKit Go.Maps

/-- The program's table, in blocks of B. -/
def PS (w : World) (t : Nat) (B : Nat → Prop) (K : List (TaskD × Int)) (last : Int) : Prop := ∃ X, PT w t K last X ∧ (∀ i, X i → B i) ∧ ∀ i, w.heap.size ≤ i → B i

section
variable {w w0 w1 : World} {t : Nat} {B : Nat → Prop} {K K' : List (TaskD × Int)} {last last' : Int} {X Z : Nat → Prop}
theorem PS.fr (h : PS w t B K last) (hf : Fr Z w w1) (hZ : ∀ i, B i → ¬ Z i) : PS w1 t B K last := by
  obtain ⟨X, h1, h2, h3⟩ := h
  exact ⟨X, h1.fr hf (fun i hi => hZ i (h2 i hi)), h2, fun i hi => h3 i (Nat.le_trans hf.size hi)⟩
theorem PS.fr0 (h : PS w t B K last) (hf : Fr (fun _ => False) w w1) : PS w1 t B K last := h.fr hf (fun _ _ h => h)
theorem PS.step (hX : ∀ i, X i → B i) (hB : ∀ i, w.heap.size ≤ i → B i) (h1 : PNx w t K' last' X w1) : PS w1 t B K' last' ∧ Fr B w w1 := by
  obtain ⟨X', a1, a2, a3⟩ := h1
  refine ⟨⟨X', a1, fun i hi => ?_, fun i hi => hB i (Nat.le_trans a2.size hi)⟩, a2.mono (fun i _ h => hX i h)⟩
  rcases a3 i hi with h | h
  · exact hX i h
  · exact hB i h
theorem new_ps (w : World) : Calls Try.prog 34 #[] w fun e w' => ∃ t, e = .returned (.pointer (some ⟨t, 0, none⟩)) ∧ PS w' t (fun i => w.heap.size ≤ i) [] 0 ∧ Fr (fun _ => False) w w' :=
  (new34_any w).mono fun e w' h => by
    obtain ⟨t, X, h1, h2, h3, h4⟩ := h
    exact ⟨t, h1, ⟨X, h2, h4, fun i hi => Nat.le_trans h3.size hi⟩, h3⟩
theorem spawn_ps (h : PS w0 t B K last) (hf : Fr (fun _ => False) w0 w) (x : TaskD) (hx : CoresOk w x.cv x.ns) (hc : 0 < x.ns.length → ∀ g, x.cv.ownBlock = some g → ¬ B g ∨ w0.heap.size ≤ g) (hl : last < 100000) (r : Int × Int) (hr : spnN K last x = r) (hK : spnK K last x = K') (hL : spnL K last x = last') :
    Calls Try.prog 37 #[.pointer (some ⟨t, 0, none⟩), x.val] w fun e w' => e = .returned (.tuple #[.int .i64 r.1, .int .i64 r.2]) ∧ PS w' t B K' last' ∧ Fr B w w' := by
  obtain ⟨X, h1, h2, h3⟩ := h
  subst hr hK hL
  refine (spawn37_any w t K last X (h1.fr0 hf) x hx (fun h0 g hg hi => ?_) hl).mono fun e w' h => ⟨h.1, PS.step h2 (fun i hi => h3 i (Nat.le_trans hf.size hi)) h.2⟩
  have h5 := h2 g hi
  have h6 := h1.lt hi
  rcases hc h0 g hg with h | h
  · exact h h5
  · omega
theorem rel_ps (h : PS w t B K last) (pid : Int) (hid : wf64 pid) (r : Int) (hr : relN K pid = r) (hK : relK K pid = K') :
    Calls Try.prog 41 #[.pointer (some ⟨t, 0, none⟩), .int .i64 pid] w fun e w' => e = .returned (.int .i64 r) ∧ PS w' t B K' last ∧ Fr B w w' := by
  obtain ⟨X, h1, h2, h3⟩ := h
  subst hr hK
  exact (release41_any w t K last X h1 pid hid).mono fun e w' h => ⟨h.1, PS.step h2 h3 h.2⟩
theorem ext_ps (h : PS w t B K last) (pid : Int) (hid : wf64 pid) (c : Int) (r : Int) (hr : extN K pid c = r) (hK : extK K pid c = K') :
    Calls Try.prog 44 #[.pointer (some ⟨t, 0, none⟩), .int .i64 pid, .int .i64 c] w fun e w' => e = .returned (.int .i64 r) ∧ PS w' t B K' last ∧ Fr B w w' := by
  obtain ⟨X, h1, h2, h3⟩ := h
  subst hr hK
  exact (exit44_any w t K last X h1 pid hid c).mono fun e w' h => ⟨h.1, PS.step h2 h3 h.2⟩
theorem sig_ps (h : PS w t B K last) (pid : Int) (hid : wf64 pid) (s : Int) (r : Int) (hr : sgnN K pid s = r) (hK : sgnK K pid s = K') :
    Calls Try.prog 42 #[.pointer (some ⟨t, 0, none⟩), .int .i64 pid, .int .i64 s] w fun e w' => e = .returned (.int .i64 r) ∧ PS w' t B K' last ∧ Fr B w w' := by
  obtain ⟨X, h1, h2, h3⟩ := h
  subst hr hK
  exact (signal42_any w t K last X h1 pid hid s).mono fun e w' h => ⟨h.1, PS.step h2 h3 h.2⟩
theorem reap_ps (h : PS w t B K last) (pid : Int) (hid : wf64 pid) (r : Int) (hr : reapN K pid = r) (hK : reapK K pid = K') :
    Calls Try.prog 39 #[.pointer (some ⟨t, 0, none⟩), .int .i64 pid] w fun e w' => ∃ x : TaskD, e = .returned (.tuple #[x.val, .int .i64 r]) ∧ CoresOk w' x.cv x.ns ∧ (if r = 0 then (findP K pid).map (·.1) = some x.abs else x = zeroT) ∧ PS w' t B K' last ∧ Fr B w w' := by
  obtain ⟨X, h1, h2, h3⟩ := h
  subst hr hK
  exact (reap39_any w t K last X h1 pid hid).mono fun e w' h => by
    obtain ⟨x, a1, a2, a3, a4, _⟩ := h
    exact ⟨x, a1, a2, a4, PS.step h2 h3 a3⟩
theorem list_ps (h : PS w t B K last) : Calls Try.prog 36 #[.pointer (some ⟨t, 0, none⟩)] w (ListPost w K) := by
  obtain ⟨X, h1, h2, h3⟩ := h
  exact list36_any w t K last X h1
theorem signalled_ps (h : PS w t B K last) (pid : Int) (hid : wf64 pid) : Calls Try.prog 43 #[.pointer (some ⟨t, 0, none⟩), .int .i64 pid] w fun e w' => e = .returned (.int .i64 (sigP K pid)) ∧ w = w' := by
  obtain ⟨X, h1, h2, h3⟩ := h
  exact signalled43_any w t K last X h1 pid hid
end

theorem wfs {n : Int} (h : -1000 ≤ n ∧ n ≤ 1000) : wf64 n := by unfold wf64; omega

theorem two_cores (W : World) (a b : Int) : CoresOk (W.alloc (.cells #[.int .i64 a, .int .i64 b] 3)) (.slice (some ⟨W.heap.size, 0, none⟩) 2 2) [a, b] := by
  have hb := Blk.new W 3 #[.int .i64 a, .int .i64 b]
  refine ⟨⟨_, 2, rfl, fun k hk => ⟨W.heap.size, 0, rfl, ?_⟩⟩, Nat.le_refl _, (fun n c e => by cases e), by simp⟩
  match k with
  | 0 => exact hb.cell 0
  | 1 => exact hb.cell 1
  | k + 2 => simp at hk; omega
theorem one_core (W : World) (a : Int) : CoresOk (W.alloc (.cells #[.int .i64 a] 3)) (.slice (some ⟨W.heap.size, 0, none⟩) 1 1) [a] := by
  have hb := Blk.new W 3 #[.int .i64 a]
  refine ⟨⟨_, 1, rfl, fun k hk => ⟨W.heap.size, 0, rfl, ?_⟩⟩, Nat.le_refl _, (fun n c e => by cases e), by simp⟩
  match k with
  | 0 => exact hb.cell 0
  | k + 1 => simp at hk

def tA (s c : Int) : TaskD := ⟨1, 3, 0, 0, 0, .slice none 0 0, [1, 2], s, c⟩
def tB (s c : Int) : TaskD := ⟨2, 4, 0, 0, 0, .slice none 0 0, [3], s, c⟩

set_option maxRecDepth 20000 in
set_option maxHeartbeats 4000000 in
theorem live33_any (w : World) : Calls Try.prog 33 #[] w fun e w' => e = .returned (.bool true) ∧ Fr (fun _ => False) w w' := by
  have HN := Lib.hid (new_ps w)
  go_enter Try.func33, Try.ntmps33
  go_wp2_with fail
  refine HN.out.mono ?_
  rintro e w1 ⟨t, rfl, ht1, hf1⟩
  have hfa := (Fr.refl (fun _ => False) w1).alloc (.cells #[.int .i64 1, .int .i64 2] 3)
  have C1 := Lib.hid (spawn_ps ht1 hfa ⟨0, 3, 0, 0, 0, .slice (some ⟨w1.heap.size, 0, none⟩) 2 2, [1, 2], 0, 0⟩ (two_cores w1 1 2) (fun _ g hg => Or.inr (Nat.le_of_eq (by simpa [Value.ownBlock] using hg))) (by omega) (1, 0) (by kernel_rfl) (K' := [(tA 0 0, 0)]) (by kernel_rfl) (last' := 1) (by kernel_rfl))
  have HF1 := Lib.hid ((hf1.then hfa).mono (S' := fun i => w.heap.size ≤ i) (fun _ _ h => h.elim))
  clear ht1 hf1 hfa
  go_wp2_with fail
  refine C1.out.mono ?_
  rintro e w2 ⟨rfl, ht2, hf2⟩
  have hfa := (Fr.refl (fun _ => False) w2).alloc (.cells #[.int .i64 3] 3)
  have C2 := Lib.hid (spawn_ps ht2 hfa ⟨77, 4, 0, 0, 0, .slice (some ⟨w2.heap.size, 0, none⟩) 1 1, [3], 2, 9⟩ (one_core w2 3) (fun _ g hg => Or.inr (Nat.le_of_eq (by simpa [Value.ownBlock] using hg))) (by omega) (2, 0) (by kernel_rfl) (K' := [(tA 0 0, 0), (tB 0 0, 0)]) (by kernel_rfl) (last' := 2) (by kernel_rfl))
  have HF2 := Lib.hid ((HF1.out.then hf2).then (hfa.mono (fun _ _ h => h.elim)))
  clear ht2 hf2 hfa
  go_wp2_with fail
  refine C2.out.mono ?_
  rintro e w3 ⟨rfl, ht3, hf3⟩
  have C3 := Lib.hid (spawn_ps ht3 (Fr.refl _ _) ⟨0, 3, 0, 0, 0, .slice none 0 0, [], 0, 0⟩ (coresOk_nil w3) (fun h => by cases h) (by omega) (0, 1) (by kernel_rfl) (K' := [(tA 0 0, 0), (tB 0 0, 0)]) (by kernel_rfl) (last' := 2) (by kernel_rfl))
  have HF3 := Lib.hid (HF2.out.then hf3)
  clear ht3 hf3
  go_wp2_with fail
  refine C3.out.mono ?_
  rintro e w4 ⟨rfl, ht4, hf4⟩
  have C4 := Lib.hid (ext_ps ht4 1 (wfs (by omega)) 3 14 (by kernel_rfl) (K' := [(tA 0 0, 0), (tB 0 0, 0)]) (by kernel_rfl))
  have HF4 := Lib.hid (HF3.out.then hf4)
  clear ht4 hf4
  go_wp2_with fail
  refine C4.out.mono ?_
  rintro e w5 ⟨rfl, ht5, hf5⟩
  have C5 := Lib.hid (rel_ps ht5 1 (wfs (by omega)) 0 (by kernel_rfl) (K' := [(tA 1 0, 0), (tB 0 0, 0)]) (by kernel_rfl))
  have HF5 := Lib.hid (HF4.out.then hf5)
  clear ht5 hf5
  go_wp2_with fail
  refine C5.out.mono ?_
  rintro e w6 ⟨rfl, ht6, hf6⟩
  have C6 := Lib.hid (sig_ps ht6 1 (wfs (by omega)) 15 0 (by kernel_rfl) (K' := [(tA 1 0, 15), (tB 0 0, 0)]) (by kernel_rfl))
  have HF6 := Lib.hid (HF5.out.then hf6)
  clear ht6 hf6
  go_wp2_with fail
  refine C6.out.mono ?_
  rintro e w7 ⟨rfl, ht7, hf7⟩
  have C7 := Lib.hid (ext_ps ht7 1 (wfs (by omega)) 3 0 (by kernel_rfl) (K' := [(tA 2 3, 15), (tB 0 0, 0)]) (by kernel_rfl))
  have HF7 := Lib.hid (HF6.out.then hf7)
  clear ht7 hf7
  go_wp2_with fail
  refine C7.out.mono ?_
  rintro e w8 ⟨rfl, ht8, hf8⟩
  have C8 := Lib.hid (sig_ps ht8 2 (wfs (by omega)) 9 0 (by kernel_rfl) (K' := [(tA 2 3, 15), (tB 2 137, 9)]) (by kernel_rfl))
  have HF8 := Lib.hid (HF7.out.then hf8)
  clear ht8 hf8
  go_wp2_with fail
  refine C8.out.mono ?_
  rintro e w9 ⟨rfl, ht9, hf9⟩
  have C9 := Lib.hid (reap_ps ht9 1 (wfs (by omega)) 0 (by kernel_rfl) (K' := [(tB 2 137, 9)]) (by kernel_rfl))
  have HF9 := Lib.hid (HF8.out.then hf9)
  clear ht9 hf9
  go_wp2_with fail
  refine C9.out.mono ?_
  rintro e wa ⟨x1, rfl, hca, hxa, hta, hfa⟩
  have hxa : some (tA 2 3) = some x1.abs := hxa
  obtain ⟨p1, j1, e1, s1, r1, c1, n1, t1, o1⟩ := x1
  have hca : CoresOk wa c1 n1 := hca
  obtain ⟨A1, cap1, rfl⟩ := hca.ints.sh
  cases hxa
  simp only [TaskD.val]
  obtain ⟨X, hX1, hX2, hX3⟩ := hta
  have hfb : Fr (fun _ => False) wa (wa.alloc (.cells #[.int .i64 1, .int .i64 3, .int .i64 0, .int .i64 0, .int .i64 0, .slice A1 2 cap1, .int .i64 2, .int .i64 3] 61)) := (Fr.refl _ wa).alloc _
  have HBA := Lib.hid (Blk.new wa 61 #[.int .i64 1, .int .i64 3, .int .i64 0, .int .i64 0, .int .i64 0, .slice A1 2 cap1, .int .i64 2, .int .i64 3])
  have HFA := Lib.hid ((HF9.out.then hfa).then (hfb.mono (fun _ _ h => h.elim)))
  have HXL := Lib.hid (fun i (hi : X i) => hX1.lt hi)
  have HXB := Lib.hid hX2
  have HX3 := Lib.hid (fun i hi => hX3 i (Nat.le_trans hfb.size hi))
  have C10 := Lib.hid (reap39_any _ t [(tB 2 137, 9)] 2 X (hX1.fr0 hfb) 2 (wfs (by omega)))
  have HR2 := Lib.hid (show reapN [(tB 2 137, 9)] 2 = 0 by kernel_rfl)
  have HK2 := Lib.hid (show reapK [(tB 2 137, 9)] 2 = [] by kernel_rfl)
  clear hX1 hX2 hX3 hca hfa hfb
  go_wp2_with fail
  refine C10.out.mono ?_
  rintro e wc ⟨x2, he, hcc, hnx, hx2, _⟩
  rw [HR2.out] at he
  rw [HK2.out] at hnx
  subst he
  have hx2 : some (tB 2 137) = some x2.abs := hx2
  obtain ⟨p2, j2, e2, s2, r2, c2, n2, t2, o2⟩ := x2
  have hcc : CoresOk wc c2 n2 := hcc
  obtain ⟨A2, cap2, rfl⟩ := hcc.ints.sh
  cases hx2
  simp only [TaskD.val]
  have hb1 := HBA.out.fr hnx.frX (fun hi => by have := HXL.out _ hi; omega)
  obtain ⟨hps, hfc⟩ := PS.step HXB.out HX3.out hnx
  have hfd : Fr (fun _ => False) wc (wc.alloc (.cells #[.int .i64 2, .int .i64 4, .int .i64 0, .int .i64 0, .int .i64 0, .slice A2 1 cap2, .int .i64 2, .int .i64 137] 61)) := (Fr.refl _ wc).alloc _
  obtain ⟨y0, y1, y2, y3, y4, y5, y6, y7⟩ := tc (hb1.fr hfd (fun h => h))
  obtain ⟨z0, z1, z2, z3, z4, z5, z6, z7⟩ := tc (Blk.new wc 61 #[.int .i64 2, .int .i64 4, .int .i64 0, .int .i64 0, .int .i64 0, .slice A2 1 cap2, .int .i64 2, .int .i64 137])
  have HFD := Lib.hid ((HFA.out.then hfc).then (hfd.mono (fun _ _ h => h.elim)))
  have C11 := Lib.hid (list_ps (hps.fr0 hfd))
  clear hb1 hps hfc hfd hnx hcc
  go_wp2_with fail
  refine C11.out.mono ?_
  rintro e wd ⟨v, T, rfl, hT, hTK, hfe⟩
  obtain rfl : T = [] := by cases T with
    | nil => rfl
    | cons a r => simp at hTK
  obtain ⟨A3, cap3, rfl⟩ := row_shape hT.row
  have HFE := Lib.hid (HFD.out.then (hfe.mono (fun _ _ h => h.elim)))
  clear hT hTK hfe
  go_wp2
  go_ret
  exact ⟨rfl, HFE.out.mono (fun i hi h => by omega)⟩

end Go.Proofs.Ytomoomopodihhaa
