/-
  The queue: Due.
-/
import Derived.Test.YtdlpiaglgdafoaaTl
namespace Go.Proofs.Ytdlpiaglgdafoaa
open Go.RowKit Go.Maps

def lenV : Value → Nat
  | .slice _ n _ => n
  | _ => 0
def idsV (P : List KeyD) : List Value := P.map fun p => .int .i64 p.2

def DueRel (S : List KeyD) (now : Int) (q : Nat) (X : Nat → Prop) (w : World) (i : Value) (wr : World) : Prop :=
  ∃ P R X', S = P ++ R ∧ (∀ x ∈ P, x.1 ≤ now) ∧ TQ wr q R X' ∧ (∀ i, X' i → X i) ∧ Fr X w wr ∧ wr.ownsRow w.heap.size 3 1 i P.length (idsV P)

/-- What 'Due' leaves. -/
def DuePost (S : List KeyD) (now : Int) (q : Nat) (X : Nat → Prop) (w : World) (e : Ending) (w' : World) : Prop :=
  ∃ v X', e = .returned v ∧ w'.ownsRow w.heap.size 3 1 v (dueN S now).length ((dueN S now).map fun x => .int .i64 x) ∧ TQ w' q (dueK S now) X' ∧ (∀ i, X' i → X i) ∧ Fr X w w'

theorem due_end {S : List KeyD} {now : Int} {q : Nat} {X X' : Nat → Prop} {w wr : World} {i : Value} {P R : List KeyD} (e : S = P ++ R) (hP : ∀ x ∈ P, x.1 ≤ now) (hR : ∀ x ∈ R, ¬ x.1 ≤ now) (hT : TQ wr q R X') (hX : ∀ i, X' i → X i) (hf : Fr X w wr) (hrow : wr.ownsRow w.heap.size 3 1 i P.length (idsV P)) :
    DuePost S now q X w (.returned i) wr := by
  obtain ⟨e1, e2⟩ := due_split e hP hR
  refine ⟨i, X', rfl, ?_, by rw [e2]; exact hT, hX, hf⟩
  rw [e1, List.length_map, List.map_map]
  exact hrow

theorem info3 : (Try.prog.info? 3).map (fun i => (i.zero, i.size, i.bytes)) = some (some (.int .i64 0), 1, 8) := by kernel_rfl

set_option maxRecDepth 20000 in
set_option maxHeartbeats 4000000 in
theorem due11_any (w : World) (q : Nat) (S : List KeyD) (X : Nat → Prop) (h : TQ w q S X) (now : Int) :
    Calls Try.prog 11 #[.pointer (some ⟨q, 0, none⟩), .int .i64 now] w (DuePost S now q X w) := by
  obtain ⟨i0, hi, hz0, hz1, hz2⟩ := info_parts info3
  have hXlt : ∀ i, X i → i < w.heap.size := fun i hi => h.lt hi
  have hS := h.ok
  have h0 : DueRel S now q X w (.slice none 0 0) w := ⟨[], S, X, rfl, (fun x hx => by cases hx), h, fun _ h => h, Fr.refl _ _, World.ownsRow_nil _ _ _ _⟩
  have HX := Lib.hid hXlt
  clear h hXlt
  go_enter Try.func11, Try.ntmps11
  go_wp2_with fail
  go_loopw [5] (fun i wr => DueRel S now q X w i wr) (fun i _ => S.length - lenV i)
  case atStart => exact h0
  case round =>
    obtain ⟨P, R, X', hSP, hP, hT, hX, hf, hrow⟩ := hrel
    have HL := Lib.hid (len14_any wr q R X' hT)
    obtain ⟨A, cap, rfl⟩ := row_shape hrow
    have hsl : S.length = P.length + R.length := by rw [hSP, List.length_append]
    have hle := hS.le
    cases R with
    | nil =>
      have HE := Lib.hid (due_end hSP hP (fun x hx => by cases hx) hT hX hf hrow)
      clear hSP hP hT hX hf hrow h0
      go_wp2_with fail
      refine (HL.out).mono ?_
      rintro e w1 ⟨rfl, rfl⟩
      go_wp2
      go_ret
      exact HE.out
    | cons p R =>
      rw [List.length_cons] at hsl
      have hokR : SrtK (p :: R) := hT.ok.srt
      have HEN := Lib.hid (fun hn => due_end hSP hP (due_done hokR (now := now) hn) hT hX hf hrow)
      obtain ⟨m, L, v, ht, hp, ho, hXe⟩ := hT
      have hLl : L.length = R.length + 1 := by have := hp.length_eq; rw [List.length_map, List.length_cons] at this; exact this
      have hl0 : 0 < L.length := by omega
      have hx0 : L[0]? = some (L[0]'hl0) := List.getElem?_eq_getElem hl0
      have he := head_eq ht.hN hx0 hp ho.srt
      obtain ⟨g, c, hv, c2⟩ := ht.heap.elem hl0
      have c0 := ht.c0
      have hb := ht.heap.ent 0 hl0
      have b0 := hb.cell 0
      have HPOP := Lib.hid (pop23_any wr 0 q (.map (some m)) L v ht.heap R.length hLl ht.hN (by omega) (L[0]'hl0) hx0)
      have HG := Lib.hid (fun w2 w3 e hpost => ht.gone hp ho (x := L[0]'hl0) (w1 := wr) (w2 := w2) (w3 := w3) (e := e) (Fr.refl _ _) hpost)
      have hrem : remK p.2 (p :: R) = R := by
        have := ho.ids
        rw [List.map_cons, List.nodup_cons] at this
        unfold remK
        rw [List.filter_cons_of_neg (by simp)]
        exact List.filter_eq_self.2 fun y hy => by
          have : y.2 ≠ p.2 := fun e => this.1 (by rw [← e]; exact List.mem_map_of_mem hy)
          simpa using this
      rw [← he] at hrem
      subst hv
      rw [he] at hrem
      have hwid : wf64 (L[0]'hl0).2.2 := by rw [he]; exact may_wf64 (ho.may p List.mem_cons_self).2
      have n1 : ((((p :: R).length : Nat) : Int) > 0) := by simp only [List.length_cons]; omega
      generalize (L[0]'hl0) = x at *
      subst he
      rw [hLl] at c0
      by_cases hnow : x.2.1 ≤ now
      · have HM := Lib.hid (fun w2 (hm : MapL Try.prog 3 w2 m (L.map eP)) => hm.drop law3 Try.underlying48 (key3 hwid) 0)
        have HS' := Lib.hid hSP
        have HPP := Lib.hid hP
        have HXX := Lib.hid hX
        have HF := Lib.hid hf
        have HROW := Lib.hid hrow
        have HREM := Lib.hid hrem
        have HXE := Lib.hid hXe
        have hta := fun w => ta53 w ⟨x.1, 0, none⟩
        clear ht hp ho hb hx0 hSP hP hX hf hrow hrem HEN hXe hokR h0
        go_wp2_with fail
        refine (HL.out).mono ?_
        rintro e w1 ⟨rfl, rfl⟩
        go_wp2_with fail
        refine (HPOP.out).mono ?_
        intro e w5 hpost
        obtain ⟨rfl, hm5, c5, d5, _⟩ := HG.out w5 w5 _ hpost
        have HG5 := Lib.hid (fun wd w6 hd => (HG.out w5 w6 _ hpost).2.2.2.2 wd hd)
        have l5 := Later.cell c5
        have k5 := Later.cell d5
        have HM5 := Lib.hid hm5
        clear hpost c0 c2 b0 hm5 c5 d5
        go_wp2_with fail
        refine wp_region_later_tail w5 8 (by kernel_rfl) (by kernel_rfl) (Fr.refl _ _) ?_
        simp only [List.take_succ_cons, List.take_zero, List.drop_succ_cons, List.drop_zero]
        repeat (go_big_quiet_step (fail))
        refine wpQuiet_nil ?_
        rintro _ ⟨dd, rfl⟩
        obtain ⟨w6, hrun, hm6, hg6⟩ := HM.out _ (HM5.out.fr dd.fr (fun h => h))
        obtain ⟨c6, X2, hT2, hf2, hX2⟩ := HG5.out _ _ dd.fr hm6 hg6
        have HT2 := Lib.hid hT2
        have HX2 := Lib.hid hX2
        have HF2 := Lib.hid hf2
        have hXB : ∀ i, ownT q m (.slice (some ⟨g, 0, none⟩) L.length c) L i → i < w.heap.size := fun i hi => HX.out i (HXX.out i (by rw [HXE.out]; exact hi))
        have hrow6 := ownsRow_fr HROW.out hf2 (fun k hk h4 => by have := (HROW.out.lt k hk).1; have := hXB k h4; omega)
        have hsz6 : w.heap.size ≤ w6.heap.size := Nat.le_trans HF.out.size hf2.size
        have hnw := news_one w6 3 [.int .i64 x.2.2]
        have HXB := Lib.hid hXB
        clear hm6 hg6 hT2 hf2 hX2 hXB
        go_wp2_with (at_builtin; refine wpList_append_own_at _ rfl _ _ 22 rfl w.heap.size 3 i0 (.int .i64 0) 1 8 Try.underlying22 hi hz0 hz1 hz2 rfl (by decide) _ _ _ rfl (hrow6.alloc _) ⟨w6.heap.size, 0, none⟩ 1 1 [.int .i64 x.2.2] rfl rfl hnw (by simp [Value.oneCell']) (by unfold maxLen; omega) (by omega) (by simp only [World.size_alloc]; omega) ?_; intro v' w7 hown1 hgrow1 hne1 hat1; obtain ⟨g', cap1, rfl⟩ := row_succ hown1)
        have hXg : ∀ g, Value.ownBlock (.slice A P.length cap) = some g → w.heap.size ≤ g := fun g hg => (HROW.out.lt g hg).1
        go_roundw
        case rel =>
          refine ⟨P ++ [x.2], R, X2, by rw [HS'.out, List.append_assoc]; rfl, fun y hy => ?_, ?_, fun i hi => HXX.out i (by rw [HXE.out]; exact HX2.out i hi), ?_, ?_⟩
          · rcases List.mem_append.1 hy with hy | hy
            · exact HPP.out y hy
            · rw [List.mem_singleton] at hy; subst hy; exact hnow
          · have h8 := HT2.out
            rw [HREM.out] at h8
            exact (h8.fr0 ((Fr.refl _ w6).alloc _)).fr (Fr.of_grown (S := fun i => w.heap.size ≤ i) hgrow1 (fun k hk => hXg k hk)) (fun i hi h9 => by have := HXB.out i (HX2.out i hi); omega)
          · refine Fr.grown (Fr.alloc (HF.out.trans HF2.out (fun i _ hi => HXX.out i (by rw [HXE.out]; exact hi))) _) hgrow1 (fun k hk => Or.inr (hXg k hk))
          · rw [List.length_append]
            show World.ownsRow _ _ _ _ _ _ ((P ++ [x.2]).map _)
            rw [List.map_append]
            exact hown1
        case measure => simp only [lenV]; omega
      · clear ht hp ho hb hx0 hSP hP hX hf hrow hrem h0
        go_wp2_with fail
        refine (HL.out).mono ?_
        rintro e w1 ⟨rfl, rfl⟩
        go_wp2
        go_ret
        exact HEN.out hnow

end Go.Proofs.Ytdlpiaglgdafoaa
