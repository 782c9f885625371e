/-
  Lists of tasks, read; two lists that are the same.
-/
import Derived.Test.YtomoomopodihhaaSg
namespace Go.Proofs.Ytomoomopodihhaa
open Go.RowKit Go.Maps

theorem abs_eq {x y : TaskD} (h : x.abs = y.abs) : y = { x with cv := y.cv } := by
  obtain ⟨x0, x1, x2, x3, x4, x5, x6, x7, x8⟩ := x
  obtain ⟨y0, y1, y2, y3, y4, y5, y6, y7, y8⟩ := y
  unfold TaskD.abs at h
  simp only [TaskD.mk.injEq] at h ⊢
  simp_all

theorem one_eq (w : World) (x y : TaskD) (h : x.abs = y.abs) (hx : CoresOk w x.cv x.ns) (hy : CoresOk w y.cv y.ns) : Calls Try.prog 38 #[x.val, y.val] w fun e w' => e = .returned (.bool true) ∧ Fr (fun _ => False) w w' := by
  have h1 := abs_eq h
  have hn : y.ns = x.ns := by rw [h1]
  rw [hn] at hy
  rw [h1]
  exact one38_true w x y.cv hx hy

structure ListAt (w : World) (v : Value) (T : List TaskD) : Prop where
  row : w.ownsRow 0 61 8 v T.length (T.flatMap TaskD.cells)
  cor : ∀ x ∈ T, CoresOk w x.cv x.ns

theorem Tasks.list {w : World} {B : Nat} {v : Value} {T : List TaskD} (h : Tasks w B v T) : ListAt w v T :=
  ⟨ownsRow_base_a' h.row (Nat.zero_le _), fun x hx => coresOk_row (h.cor x hx) (h.nl x hx)⟩

theorem ListAt.fr {S : Nat → Prop} {w W : World} {v : Value} {T : List TaskD} (h : ListAt w v T) (hf : Fr S w W) (hv : ∀ k, v.ownBlock = some k → ¬ S k) (hc : ∀ x ∈ T, ∀ k, x.cv.ownBlock = some k → ¬ S k) : ListAt W v T :=
  ⟨ownsRow_fr h.row hf hv, fun x hx => (h.cor x hx).fr hf (hc x hx)⟩
theorem ListAt.fr0 {w W : World} {v : Value} {T : List TaskD} (h : ListAt w v T) (hf : Fr (fun _ => False) w W) : ListAt W v T := h.fr hf (fun _ _ h => h) (fun _ _ _ _ h => h)

theorem ListAt.el {W : World} {v : Value} {T : List TaskD} (h : ListAt W v T) {i : Nat} (hi : i < T.length) :
    ∃ g cap, v = .slice (some ⟨g, 0, none⟩) T.length cap ∧ (∃ A c, (T[i]'hi).cv = .slice A (T[i]'hi).ns.length c) ∧ W.cell? ⟨g, i * 8, none⟩ = some (.int .i64 (T[i]'hi).pid) ∧ W.cell? ⟨g, i * 8 + 1, none⟩ = some (.int .i64 (T[i]'hi).job) ∧ W.cell? ⟨g, i * 8 + 2, none⟩ = some (.int .i64 (T[i]'hi).epoch) ∧ W.cell? ⟨g, i * 8 + 3, none⟩ = some (.int .i64 (T[i]'hi).step) ∧ W.cell? ⟨g, i * 8 + 4, none⟩ = some (.int .i64 (T[i]'hi).rank) ∧ W.cell? ⟨g, i * 8 + 5, none⟩ = some (T[i]'hi).cv ∧ W.cell? ⟨g, i * 8 + 6, none⟩ = some (.int .i64 (T[i]'hi).state) ∧ W.cell? ⟨g, i * 8 + 7, none⟩ = some (.int .i64 (T[i]'hi).code) := by
  obtain ⟨g, cap, hv, hc⟩ := task_cell h.row hi
  exact ⟨g, cap, hv, (h.cor _ (List.getElem_mem hi)).ints.sh, hc 0 _ (by omega) rfl, hc 1 _ (by omega) rfl, hc 2 _ (by omega) rfl, hc 3 _ (by omega) rfl, hc 4 _ (by omega) rfl, hc 5 _ (by omega) rfl, hc 6 _ (by omega) rfl, hc 7 _ (by omega) rfl⟩

set_option maxRecDepth 20000 in
set_option maxHeartbeats 2000000 in
theorem same40_true (w : World) (v v2 : Value) (T T2 : List TaskD) (h : ListAt w v T) (h2 : ListAt w v2 T2) (he : T.map TaskD.abs = T2.map TaskD.abs) (hl : T.length ≤ 256) :
    Calls Try.prog 40 #[v, v2] w fun e w' => e = .returned (.bool true) ∧ Fr (fun _ => False) w w' := by
  have hlen : T.length = T2.length := by simpa using congrArg List.length he
  have HL := Lib.hid h
  have HL2 := Lib.hid h2
  have HE := Lib.hid he
  obtain ⟨A, cap, rfl⟩ := row_shape h.row
  obtain ⟨A2, cap2, rfl⟩ := row_shape h2.row
  have b0 : ((T.length : Int) != (T2.length : Int)) = false := by simp [hlen]
  have HLEN := Lib.hid hlen
  clear h h2 he hlen
  go_enter Try.func40, Try.ntmps40
  go_wp2_with fail
  go_loopw [5] (fun i wr => ∃ k : Nat, k ≤ T.length ∧ i = .int .i64 k ∧ Hid (Fr (fun _ => False) w wr)) (fun i _ => T.length - (intOf i).toNat)
  case atStart => exact ⟨0, Nat.zero_le _, rfl, Lib.hid (Fr.refl _ _)⟩
  case round =>
    obtain ⟨k, hk, rfl, hf⟩ := hrel
    by_cases hlt : k < T.length
    · have hlt2 : k < T2.length := by rw [← HLEN.out]; exact hlt
      have hxy : (T[k]'hlt).abs = (T2[k]'hlt2).abs := by
        have h1 : (T.map TaskD.abs)[k]? = (T2.map TaskD.abs)[k]? := by rw [HE.out]
        simpa [hlt, hlt2] using h1
      have HC := Lib.hid (fun (d : Later wr) => one_eq d.val _ _ hxy (((HL.out.fr0 hf.out).fr0 d.fr).cor _ (List.getElem_mem hlt)) (((HL2.out.fr0 hf.out).fr0 d.fr).cor _ (List.getElem_mem hlt2)))
      obtain ⟨ga, ca, hv, hsh, y0, y1, y2, y3, y4, y5, y6, y7⟩ := (HL.out.fr0 hf.out).el hlt
      cases hv
      obtain ⟨gb, cb, hv, hsh2, z0, z1, z2, z3, z4, z5, z6, z7⟩ := (HL2.out.fr0 hf.out).el hlt2
      cases hv
      clear hxy
      generalize (T[k]'hlt) = x at *
      generalize (T2[k]'hlt2) = y at *
      obtain ⟨x0, x1, x2, x3, x4, xc, xn, x6, x7⟩ := x
      obtain ⟨p0, p1, p2, p3, p4, pc, pn, p6, p7⟩ := y
      obtain ⟨Ax, cx, hv⟩ := hsh
      have hv : xc = .slice Ax xn.length cx := hv
      subst hv
      obtain ⟨Ay, cy, hv⟩ := hsh2
      have hv : pc = .slice Ay pn.length cy := hv
      subst hv
      simp only [TaskD.val] at HC
      simp only at y0 y1 y2 y3 y4 y5 y6 y7 z0 z1 z2 z3 z4 z5 z6 z7
      have ly0 := Later.cell y0
      have ly1 := Later.cell y1
      have ly2 := Later.cell y2
      have ly3 := Later.cell y3
      have ly4 := Later.cell y4
      have ly5 := Later.cell y5
      have ly6 := Later.cell y6
      have ly7 := Later.cell y7
      have lz0 := Later.cell z0
      have lz1 := Later.cell z1
      have lz2 := Later.cell z2
      have lz3 := Later.cell z3
      have lz4 := Later.cell z4
      have lz5 := Later.cell z5
      have lz6 := Later.cell z6
      have lz7 := Later.cell z7
      clear y0 y1 y2 y3 y4 y5 y6 y7 z0 z1 z2 z3 z4 z5 z6 z7
      go_wp2_with fail
      refine wp_region_later wr (by kernel_rfl) (by kernel_rfl) (Fr.refl _ _) ?_
      repeat (go_big_quiet_step (first | (go_at_call 38; exact later_call (HC.out _))))
      refine wpQuiet_nil ?_
      rintro _ ⟨d, rfl⟩
      go_wp2
      go_roundw
      case rel => exact ⟨k + 1, by omega, by go_num, Lib.hid (hf.out.then d.fr)⟩
      case measure => simp [intOf]; omega
    · obtain rfl : k = T.length := by omega
      go_wp2
      go_ret
      exact ⟨rfl, hf.out⟩

/-! ### What a list without one task is. -/
section
variable {K : List (TaskD × Int)} {last : Int} {T T2 : List TaskD} {id : Int}
def keptN (T : List TaskD) (id : Int) (m : Nat) : Nat := ((T.take m).filter fun x => x.pid != id).length

theorem keptN_step {m : Nat} (hm : m < T.length) : keptN T id (m + 1) = keptN T id m + (if (T[m]'hm).pid = id then 0 else 1) := by
  unfold keptN
  rw [List.take_succ_eq_append_getElem hm, List.filter_append, List.length_append]
  congr 1
  by_cases h : (T[m]'hm).pid = id
  · rw [if_pos h]; simp [h]
  · rw [if_neg h]; simp [h]
theorem kept_abs (hT : T.map TaskD.abs = K.map (·.1)) (h2 : T2.map TaskD.abs = (K.filter (fun p => p.1.pid != id)).map (·.1)) : T2.map TaskD.abs = (T.filter fun x => x.pid != id).map TaskD.abs := by
  rw [h2]
  clear h2
  induction K generalizing T with
  | nil =>
    cases T with
    | nil => rfl
    | cons a r => simp at hT
  | cons p K ih =>
    cases T with
    | nil => simp at hT
    | cons a r =>
      simp only [List.map_cons, List.cons.injEq] at hT
      have e : a.pid = p.1.pid := by rw [← hT.1]; rfl
      simp only [List.filter_cons, e]
      split
      · simp only [List.map_cons]
        rw [← ih hT.2, hT.1]
      · exact ih hT.2
theorem kept_el (he : T2.map TaskD.abs = (T.filter fun x => x.pid != id).map TaskD.abs) {m : Nat} (hm : m < T.length) (hne : (T[m]'hm).pid ≠ id) : ∃ h : keptN T id m < T2.length, (T2[keptN T id m]'h).abs = (T[m]'hm).abs := by
  have hlen : T2.length = (T.filter fun x => x.pid != id).length := by simpa using congrArg List.length he
  have hsplit : T.filter (fun x => x.pid != id) = (T.take m).filter (fun x => x.pid != id) ++ (T[m]'hm) :: (T.drop (m + 1)).filter (fun x => x.pid != id) := by
    conv => lhs; rw [← List.take_append_drop m T, List.filter_append, List.drop_eq_getElem_cons hm, List.filter_cons]
    rw [if_pos (by simpa using hne)]
  have h1 : keptN T id m < (T.filter fun x => x.pid != id).length := by
    rw [hsplit, List.length_append, List.length_cons]
    unfold keptN
    omega
  have h2 : (T.filter fun x => x.pid != id)[keptN T id m]'h1 = T[m]'hm := by
    have h3 : (T.filter fun x => x.pid != id)[keptN T id m]? = some (T[m]'hm) := by
      rw [hsplit]
      unfold keptN
      rw [List.getElem?_append_right (Nat.le_refl _)]
      simp
    rw [List.getElem?_eq_getElem h1] at h3
    exact Option.some.inj h3
  refine ⟨by rw [hlen]; exact h1, ?_⟩
  have h4 : (T2.map TaskD.abs)[keptN T id m]? = ((T.filter fun x => x.pid != id).map TaskD.abs)[keptN T id m]? := by rw [he]
  have h5 : keptN T id m < T2.length := by rw [hlen]; exact h1
  rw [List.getElem?_map, List.getElem?_map, List.getElem?_eq_getElem h5, List.getElem?_eq_getElem h1, h2] at h4
  simpa using h4
theorem kept_all (he : T2.map TaskD.abs = (T.filter fun x => x.pid != id).map TaskD.abs) : keptN T id T.length = T2.length := by
  unfold keptN
  rw [List.take_length]
  simpa using (congrArg List.length he).symm
end

end Go.Proofs.Ytomoomopodihhaa
