/-
  The program's cache: Revoke, and the striking of what is over.
-/
import Derived.Test.YtclokfjcjpigpaaD
namespace Go.Proofs.Ytclokfjcjpigpaa
open Go.RowKit Go.Maps

theorem same_int (a b : Int) : (Lit.int .i64 a).sameKey (.int .i64 b) = (a == b) := by
  by_cases h : a = b
  · subst h; rw [WideAt.sameKey_self (by simp [WideAt.IsKeyLit])]; simp
  · rw [sameKey_ne (by simpa using h)]; simp [h]

theorem same_pl {a b : PKey} (ha : a.wf) (hb : b.wf) : (plLit a).sameKey (plLit b) = (a == b) := by
  by_cases h : a = b
  · subst h; rw [WideAt.sameKey_self (by simp [WideAt.IsKeyLit, plLit])]; simp
  · rw [sameKey_ne (fun e => h (plLit_inj ha hb e))]; simp [h]

def putK (K : List (Int × Int)) (j e : Int) : List (Int × Int) := (j, e) :: K.filter (fun p => p.1 != j)

theorem putK_map (K : List (Int × Int)) (j e : Int) : (Lit.int .i64 j, Value.int .i64 e) :: (K.map kP).filter (fun p => !p.1.sameKey (Lit.int .i64 j)) = (putK K j e).map kP := by
  unfold putK
  rw [List.map_cons, List.filter_map]
  refine congrArg _ (congrArg _ ?_)
  refine List.filter_congr fun p _ => ?_
  simp [kP, same_int, bne]

theorem findK_mem {K : List (Int × Int)} {k u : Int} (h : findK K k = some u) : (k, u) ∈ K := by
  unfold findK at h
  cases hf : K.find? (fun p => p.1 == k) with
  | none => rw [hf] at h; cases h
  | some p =>
    rw [hf] at h
    have h1 := List.mem_of_find?_eq_some hf
    have h2 := List.find?_some hf
    simp only [beq_iff_eq] at h2
    simp only [Option.map_some, Option.some.injEq] at h
    rw [← h2, ← h]
    exact h1

theorem putK_len {K : List (Int × Int)} {j : Int} (e : Int) (h : (findK K j).isSome = false → K.length ≠ 64) (hl : K.length ≤ 64) : (putK K j e).length ≤ 64 := by
  unfold putK
  have h1 := List.length_filter_le (fun p : Int × Int => p.1 != j) K
  cases hf : findK K j with
  | none => have := h (by rw [hf]; rfl); simp; omega
  | some u =>
    have h2 : (K.filter (fun p => p.1 != j)).length < K.length := by
      refine List.length_filter_lt_length_iff_exists.2 ⟨_, findK_mem hf, by simp⟩
    simp; omega

theorem findK_wf {K : List (Int × Int)} (hK : ∀ p ∈ K, wf64 p.1 ∧ wf64 p.2) (k : Int) : wf64 ((findK K k).getD 0) := by
  cases hf : findK K k with
  | none => simp [wf64]
  | some u => exact (hK _ (findK_mem hf)).2

theorem CacheAt.putK {w w1 : World} {b m1 m2 : Nat} {most : Int} {U : List (PKey × Int)} {K : List (Int × Int)} (h : CacheAt w b m1 m2 most U K) {job e : Int}
    (hm : MapL Try.prog 3 w1 m2 ((Lit.int .i64 job, Value.int .i64 e) :: (K.map kP).filter (fun p => !p.1.sameKey (Lit.int .i64 job)))) (hg : w.grownBy w1 (some m2)) (hj : wf64 job) (he : wf64 e) (hl : (Ytclokfjcjpigpaa.putK K job e).length ≤ 64) :
    CacheAt w1 b m1 m2 most U (Ytclokfjcjpigpaa.putK K job e) ∧ Fr (fun k => k = m2) w w1 := by
  refine ⟨⟨h.blk.grown hg (fun e => h.back.ne_blk h.blk (Option.some.inj e).symm), h.until_.grown hg (fun e => h.ne (Option.some.inj e)), by rw [← putK_map]; exact hm, h.ne, h.wfU, ?_, h.lenU, h.le64, hl⟩, Fr.of_grown hg fun k e => (Option.some.inj e).symm⟩
  intro p hp
  rcases List.mem_cons.1 hp with rfl | hp
  · exact ⟨hj, he⟩
  · exact h.wfK p (List.mem_filter.1 hp).1

/-- What Revoke answers, and what it leaves. -/
def revokeR (K : List (Int × Int)) (job epoch : Int) : Int × List (Int × Int) :=
  if job < 0 ∨ 1099511627776 < job ∨ epoch < 0 ∨ 8 < epoch then (1, K)
  else if (findK K job).isSome = false ∧ K.length = 64 then (6, K)
  else (0, putK K job (max ((findK K job).getD 0) epoch))

set_option maxHeartbeats 1000000 in
theorem revoke19_any (w : World) (b m1 m2 : Nat) (most : Int) (U : List (PKey × Int)) (K : List (Int × Int)) (h : CacheAt w b m1 m2 most U K) (job epoch : Int) :
    Calls Try.prog 19 #[.pointer (some ⟨b, 0, none⟩), .int .i64 job, .int .i64 epoch] w fun e w' =>
      e = .returned (.int .i64 (revokeR K job epoch).1) ∧ CacheAt w' b m1 m2 most U (revokeR K job epoch).2 ∧ Fr (fun k => k = m2) w w' := by
  have c1 : w.cell? ⟨b, 2, none⟩ = some (.map (some m2)) := h.blk.cell 2
  by_cases hd : job < 0 ∨ 1099511627776 < job ∨ epoch < 0 ∨ 8 < epoch
  · have hr : revokeR K job epoch = (1, K) := by unfold revokeR; rw [if_pos hd]
    rw [hr]
    have H := Lib.hid h
    clear h hr
    go_enter Try.func19, Try.ntmps19
    go_wp2
    all_goals first
      | (go_ret; exact ⟨rfl, H.out, Fr.refl _ _⟩)
      | (exfalso; omega)
  · have hw : wf64 job ∧ wf64 epoch := ⟨⟨by omega, by omega⟩, ⟨by omega, by omega⟩⟩
    have hlk := h.lookK hw.1
    have hl := h.back.length Try.underlying55 3
    rw [List.length_map] at hl
    have hwf := findK_wf h.wfK job
    have hr : revokeR K job epoch = if (findK K job).isSome = false ∧ K.length = 64 then (6, K) else (0, putK K job (max ((findK K job).getD 0) epoch)) := by
      unfold revokeR; rw [if_neg hd]
    have hlen := fun e => putK_len (K := K) (j := job) e
    generalize (findK K job).getD 0 = u at *
    generalize (findK K job).isSome = ok at *
    have hlK := h.lenK
    have hback := Lib.hid h.back
    have d1 : 0 ≤ job := by omega
    have d2 : job ≤ 1099511627776 := by omega
    have d3 : 0 ≤ epoch := by omega
    have d4 : epoch ≤ 8 := by omega
    clear hd
    by_cases hf : ok = false ∧ K.length = 64
    · rw [hr, if_pos hf]
      obtain ⟨rfl, hf2⟩ := hf
      have b1 : ((K.length : Int) == 64) = true := by simp; omega
      have H := Lib.hid h
      clear h hr hlen hf2
      go_enter Try.func19, Try.ntmps19
      go_wp2
      go_ret
      exact ⟨rfl, H.out, Fr.refl _ _⟩
    · rw [hr, if_neg hf]
      have hl2 := hlen (max u epoch) (fun h1 h2 => hf ⟨h1, h2⟩) hlK
      have hwe : wf64 (max u epoch) := by
        have := hwf
        unfold wf64 at this ⊢
        omega
      have hput := fun w1 e (he : e = max u epoch) hm hg => h.putK (w1 := w1) (job := job) (e := e) hm hg hw.1 (he ▸ hwe) (he ▸ hl2)
      have HP := Lib.hid hput
      clear h hr hlen hl2 hput
      cases ok
      · have b1 : ((K.length : Int) == 64) = false := by
          simp only [beq_eq_false_iff_ne, ne_eq]
          intro h1
          exact hf ⟨rfl, by omega⟩
        clear hf
        go_enter Try.func19, Try.ntmps19
        go_wp2_with (at_mapUpdate; refine wpList_mapStore rfl _ _ _ 55 rfl 3 law3 Try.underlying55 rfl hback.out (by rw [List.length_map]; unfold maxLen; omega) _ _ (.int .i64 job) rfl rfl (key3 hw.1) ?_; intro w1 hm1 hg1)
        all_goals
          go_ret
          have hP := HP.out w1 _ (by split <;> omega) hm1 hg1
          rw [show (if u < epoch then epoch else u) = max u epoch by split <;> omega] at hP
          exact ⟨rfl, hP⟩
      · clear hf
        go_enter Try.func19, Try.ntmps19
        go_wp2_with (at_mapUpdate; refine wpList_mapStore rfl _ _ _ 55 rfl 3 law3 Try.underlying55 rfl hback.out (by rw [List.length_map]; unfold maxLen; omega) _ _ (.int .i64 job) rfl rfl (key3 hw.1) ?_; intro w1 hm1 hg1)
        all_goals
          go_ret
          have hP := HP.out w1 _ (by split <;> omega) hm1 hg1
          rw [show (if u < epoch then epoch else u) = max u epoch by split <;> omega] at hP
          exact ⟨rfl, hP⟩


set_option maxHeartbeats 400000 in
theorem over27_any (k : PKey) (u now : Int) (bx : Nat) (W : World) (hx : W.cell? ⟨bx, 0, none⟩ = some (.int .i64 now)) :
    Calls Try.prog 27 #[plVal k, .int .i64 u, .pointer (some ⟨bx, 0, none⟩)] W fun e w' => e = .returned (.bool (decide (u ≤ now))) ∧ Fr (fun _ => False) W w' := by
  obtain ⟨a, b, c⟩ := k
  simp only [plVal]
  have hb := World.block_lt_of_cell? W _ hx
  simp only at hb
  go_enter Try.func27, Try.ntmps27
  go_wp2
  go_ret
  exact ⟨rfl, (Fr.refl _ W).alloc _⟩

def keepV (now : Int) (p : Lit × Value) : Bool := match p.2 with | .int _ u => decide (now < u) | _ => true

theorem keep_map (U : List (PKey × Int)) (now : Int) : (U.map uP).filter (keepV now) = (U.filter (fun p => decide (now < p.2))).map uP := by
  rw [List.filter_map]; rfl

/-- What holds between two rounds. -/
def DelRel (U : List (PKey × Int)) (m1 r : Nat) (now : Int) (w wr : World) : Prop :=
  ∃ done todo all, (all ++ todo).Perm (U.map uP) ∧ RangeL Try.prog 60 wr m1 r done todo ∧ done.Perm (all.filter (keepV now)) ∧ Fr (fun k => k = m1) w wr

theorem perm_shift {α : Type} {all todo todo' L : List α} {x : α} (h : (all ++ todo).Perm L) (hp : todo.Perm (x :: todo')) : ((x :: all) ++ todo').Perm L :=
  (List.perm_middle.symm.trans ((hp.symm.append_left all))).trans h

theorem key_form {U : List (PKey × Int)} (hU : ∀ p ∈ U, p.1.wf ∧ wf64 p.2) {all todo todo' : List (Lit × Value)} {kl : Lit} {v key : Value} (h : (all ++ todo).Perm (U.map uP)) (hp : todo.Perm ((kl, v) :: todo')) (hk : keyOf Try.prog 60 key = some kl) :
    ∃ k u, key = plVal k ∧ v = .int .i64 u ∧ kl = plLit k ∧ k.wf := by
  have hm : (kl, v) ∈ U.map uP := h.mem_iff.1 (List.mem_append_right _ (hp.mem_iff.2 List.mem_cons_self))
  obtain ⟨q, hq, he⟩ := List.mem_map.1 hm
  simp only [uP, Prod.mk.injEq] at he
  obtain ⟨rfl, rfl⟩ := he
  exact ⟨q.1, q.2, law60.inj hk (key60 (hU q hq).1), rfl, rfl, (hU q hq).1⟩

set_option maxHeartbeats 2000000 in
theorem del26_any (U : List (PKey × Int)) (hU : ∀ p ∈ U, p.1.wf ∧ wf64 p.2) (m1 bx : Nat) (now : Int) (w : World) (h : MapL Try.prog 60 w m1 (U.map uP)) (hx : Blk w bx 3 #[.int .i64 now]) :
    Calls Try.prog 26 #[.map (some m1), .func (.func 27) #[] #[.pointer (some ⟨bx, 0, none⟩)]] w fun e w' =>
      e = .returned (.tuple #[]) ∧ MapL Try.prog 60 w' m1 ((U.filter (fun p => decide (now < p.2))).map uP) ∧ Fr (fun k => k = m1) w w' := by
  have hne := h.ne_blk hx
  have hbx := hx.lt
  have hm1 := h.lt
  go_enter Try.func26, Try.ntmps26
  go_wp2_with (at_range; refine wpList_rangeL rfl _ 54 rfl 3 Try.underlying54 rfl h ?_; intro w0 hr0 hf0)
  go_frame
  go_loopw [8] (fun _ wr => DelRel U m1 w.heap.size now w wr) (fun _ wr => wr.rangeLeft m1 w.heap.size)
  case atStart => exact ⟨[], _, [], List.Perm.refl _, hr0, List.Perm.refl _, hf0.mono (fun _ _ h => h.elim)⟩
  case round =>
    obtain ⟨done, todo, all, hall, hrg, hdone, hfr⟩ := hrel
    clear hr0 hf0
    go_wp2_with (at_next; refine wpList_nextL rfl _ rfl rfl hrg ?_ ?_)
    · intro ht
      go_wp2
      go_end0
      subst ht
      refine ⟨rfl, ?_, hfr⟩
      refine hrg.map.perm ?_
      rw [← keep_map, List.append_nil]
      rw [List.append_nil] at hall
      exact hdone.trans (hall.filter _)
    · intro key v kl todo' w1 hkey hp hr1 hf1 hen
      obtain ⟨k, u, rfl, rfl, rfl, hkw⟩ := key_form hU hall hp hkey
      have hall1 := Lib.hid (perm_shift hall hp)
      have HL := Lib.hid hrg.left_eq
      have HP := Lib.hid hp.length_eq
      have hfr1 : Fr (fun k => k = m1) w w1 := hfr.trans hf1 (fun i hi e => by omega)
      have hx1 := hx.fr hfr1 (fun e => hne e.symm)
      have HD := Lib.hid hdone
      have HR := Lib.hid hr1
      obtain ⟨ka, kb, kc⟩ := k
      have hcl := fun W hW => over27_any (ka, kb, kc) u now bx W hW
      have HK := Lib.hid (key60 hkw)
      simp only [plVal] at hcl hen HK
      have HC := Lib.hid hcl
      have hrl := hr1.lt
      have hbx1 := hx1.lt
      clear hkey hp hrg hr1 hdone hall hkw hfr hf1 hcl
      by_cases hc : u ≤ now
      · have b1 : decide (u ≤ now) = true := by simpa using hc
        go_wp2_with (first
          | (go_at_call 27; refine (HC.out _ ((hx1.alloc _).cell 0)).mono ?_; rintro e w2 ⟨rfl, hf2⟩; have hc2 := fun i => ((Blk.new w1 60 #[.int .i64 ka, .int .i64 kb, .int .i64 kc]).fr hf2 (fun h => h)).cell i; have hz2 := hf2.size; have hr2 := (HR.out.alloc _).fr hf2 (fun h => h) (fun h => h))
          | (at_delete; refine wpList_dropL rfl _ _ 54 rfl 3 law60 Try.underlying54 rfl hr2 _ rfl HK.out ?_; intro w3 hr3 hf3; go_frame))
        go_roundw
        case rel =>
          refine ⟨done, todo', _, hall1.out, hr3, ?_, ?_⟩
          · rw [List.filter_cons_of_neg (by simp only [keepV, decide_eq_true_eq]; omega)]
            exact HD.out
          · exact (((hfr1.alloc _).trans hf2 (fun _ _ h => h.elim)).then hf3)
        case measure => rw [HL.out, hr3.left_eq, HP.out]; simp
      · have b1 : decide (u ≤ now) = false := by simpa using hc
        go_wp2_with (first
          | (go_at_call 27; refine (HC.out _ ((hx1.alloc _).cell 0)).mono ?_; rintro e w2 ⟨rfl, hf2⟩; have hc2 := fun i => ((Blk.new w1 60 #[.int .i64 ka, .int .i64 kb, .int .i64 kc]).fr hf2 (fun h => h)).cell i; have hz2 := hf2.size; have hr2 := (HR.out.alloc _).fr hf2 (fun h => h) (fun h => h)))
        go_roundw
        case rel =>
          refine ⟨_, todo', _, hall1.out, hr2, ?_, ?_⟩
          · rw [List.filter_cons_of_pos (by simp only [keepV, decide_eq_true_eq]; omega)]
            exact HD.out.cons _
          · exact ((hfr1.alloc _).trans hf2 (fun _ _ h => h.elim))
        case measure => rw [HL.out, hr2.left_eq, HP.out]; simp

end Go.Proofs.Ytclokfjcjpigpaa
