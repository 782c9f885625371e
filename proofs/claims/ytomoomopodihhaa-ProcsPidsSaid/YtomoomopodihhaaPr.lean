/-
  The reference's table: Spawn.
-/
import Derived.Test.YtomoomopodihhaaPp
import Derived.Test.YtomoomopodihhaaPq
import Derived.Deep.DeepCutAuto
namespace Go.Proofs.Ytomoomopodihhaa
open Go.RowKit Go.Maps

theorem row_ne {w : World} {base : Nat} {e : TypeId} {size : Nat} {v : Value} {n : Nat} {xs : List Value} {k : Nat} {t : TypeId} {cs : Array Value} (h : w.ownsRow base e size v n xs) (hb : Blk w k t cs) (hne : e ≠ t) {b : Nat} (hv : v.ownBlock = some b) : b ≠ k := fun e1 => by
  obtain ⟨cur, hc⟩ := ownsRow_block h hv
  unfold Blk at hb
  rw [← e1, hc] at hb
  have := Option.some.inj hb
  cases this
  exact hne rfl

/-- The table, its signals not yet as many as its tasks. -/
structure RPre (w : World) (k : Nat) (lv sv : Value) (N : Int) (T : List TaskD) (G : List Int) : Prop where
  blk : Blk w k 58 #[lv, sv, .int .i64 N]
  row : w.ownsRow 0 61 8 lv T.length (T.flatMap TaskD.cells)
  sig : w.ownsRow 0 3 1 sv G.length (rowI G)
  cor : ∀ x ∈ T, w.ownsRow 0 3 1 x.cv x.ns.length (rowI x.ns)
  nl : ∀ x ∈ T, x.ns.length ≤ 100000

section
variable {w w1 W5 w7 : World} {k : Nat} {lv sv v2 : Value} {N : Int} {T : List TaskD} {G : List Int}

theorem RTab.setN (h : RTab w k lv sv N T G) (N' : Int) : RTab (w.setCell ⟨k, 2, none⟩ (.int .i64 N')) k lv sv N' T G := by
  have hF : Fr (fun b => b = k) w (w.setCell ⟨k, 2, none⟩ (.int .i64 N')) := (Fr.refl (fun b => b = k) w).setCell (p := ⟨k, 2, none⟩) (Or.inl rfl) _
  exact ⟨h.blk.set_ 2 (.int .i64 N'), ownsRow_fr h.row hF (fun b hb e => row_ne h.row h.blk (by decide) hb e), ownsRow_fr h.sig hF (fun b hb e => row_ne h.sig h.blk (by decide) hb e), h.len,
    fun x hx => ownsRow_fr (h.cor x hx) hF (fun b hb e => row_ne (h.cor x hx) h.blk (by decide) hb e), h.nl, h.sep⟩

theorem RTab.pre8 (h : RTab W5 k lv sv N T G) {y : TaskD} (hy : W5.ownsRow 0 3 1 y.cv y.ns.length (rowI y.ns)) (hn : y.ns.length ≤ 100000) (hf : Fr (fun _ => False) W5 w7) (hrow : w7.ownsRow W5.heap.size 61 8 v2 (T.length + 1) (T.flatMap TaskD.cells ++ y.cells)) :
    RPre (w7.setCell ⟨k, 0, none⟩ v2) k v2 sv N (T ++ [y]) G := by
  have hF : Fr (fun b => b = k) w7 (w7.setCell ⟨k, 0, none⟩ v2) := (Fr.refl (fun b => b = k) w7).setCell (p := ⟨k, 0, none⟩) (Or.inl rfl) _
  have hk := h.blk.lt
  have hb7 := h.blk.fr hf (fun h => h)
  have hs7 := ownsRow_fr h.sig hf (fun _ _ h => h)
  have hco : ∀ x ∈ T ++ [y], w7.ownsRow 0 3 1 x.cv x.ns.length (rowI x.ns) := fun x hx => by
    rcases List.mem_append.1 hx with hx | hx
    · exact ownsRow_fr (h.cor x hx) hf (fun _ _ h => h)
    · rw [List.mem_singleton] at hx; subst hx
      exact ownsRow_fr hy hf (fun _ _ h => h)
  refine ⟨hb7.set_ 0 v2, ?_, ownsRow_fr hs7 hF (fun b hb e => row_ne hs7 hb7 (by decide) hb e), fun x hx => ownsRow_fr (hco x hx) hF (fun b hb e => row_ne (hco x hx) hb7 (by decide) hb e), fun x hx => ?_⟩
  · have := ownsRow_base_a' (ownsRow_fr hrow hF (fun b hb e => row_ne hrow hb7 (by decide) hb e)) (Nat.zero_le _)
    rw [List.length_append, List.flatMap_append, List.flatMap_singleton]
    exact this
  · rcases List.mem_append.1 hx with hx | hx
    · exact h.nl x hx
    · rw [List.mem_singleton] at hx; subst hx
      exact hn

theorem RPre.fr0 (h : RPre w k lv sv N T G) (hf : Fr (fun _ => False) w w1) : RPre w1 k lv sv N T G :=
  ⟨h.blk.fr hf (fun h => h), ownsRow_fr h.row hf (fun _ _ h => h), ownsRow_fr h.sig hf (fun _ _ h => h), fun x hx => ownsRow_fr (h.cor x hx) hf (fun _ _ h => h), h.nl⟩

theorem RPre.done (h : RPre w k lv sv N T G) (hf : Fr (fun _ => False) w w1) (hrow : w1.ownsRow w.heap.size 3 1 v2 (G.length + 1) (rowI G ++ [.int .i64 0])) (hl : T.length = G.length + 1) :
    RTab (w1.setCell ⟨k, 1, none⟩ v2) k lv v2 N T (G ++ [0]) := by
  have hF : Fr (fun b => b = k) w1 (w1.setCell ⟨k, 1, none⟩ v2) := (Fr.refl (fun b => b = k) w1).setCell (p := ⟨k, 1, none⟩) (Or.inl rfl) _
  have h1 := h.fr0 hf
  refine ⟨h1.blk.set_ 1 v2, ownsRow_fr h1.row hF (fun b hb e => row_ne h1.row h1.blk (by decide) hb e), ?_, by simp [hl], fun x hx => ownsRow_fr (h1.cor x hx) hF (fun b hb e => row_ne (h1.cor x hx) h1.blk (by decide) hb e), h.nl, fun x hx g hg e => ?_⟩
  · have := ownsRow_base_a' (ownsRow_fr hrow hF (fun b hb e => row_ne hrow h1.blk (by decide) hb e)) (Nat.zero_le _)
    rw [List.length_append]
    unfold rowI at this ⊢
    rw [List.map_append]
    exact this
  · have h2 := ((h.cor x hx).lt g hg).2
    have h3 := (hrow.lt g e).1
    omega

theorem RNx.up {n : Nat} {Y : Nat → Prop} (h : RNx w k n Y w1) : RNx w k (n + 1) Y w1 := by
  obtain ⟨Y', ⟨lv, sv, N, T, G, h1, h2, h3, h4, rfl⟩, h5, h6⟩ := h
  exact ⟨_, ⟨lv, sv, N, T, G, h1, by omega, h3, by omega, rfl⟩, h5, h6⟩
end

/-- A weak word on 'Spawn'. -/
def TwoPost (w : World) (k n : Nat) (Y : Nat → Prop) (e : Ending) (w' : World) : Prop := ∃ a b, e = .returned (.tuple #[.int .i64 a, .int .i64 b]) ∧ RNx w k n Y w'

set_option maxRecDepth 20000 in
set_option maxHeartbeats 3000000 in
theorem rspawn50_any (w : World) (k n : Nat) (Y : Nat → Prop) (h : RT w k n Y) (hn : n ≤ 1000) (x : TaskD) (hx : CoresOk w x.cv x.ns) (hxY : 0 < x.ns.length → ∀ g, x.cv.ownBlock = some g → g ≠ k) :
    Calls Try.prog 50 #[.pointer (some ⟨k, 0, none⟩), x.val] w (TwoPost w k (n + 1) Y) := by
  have HS := Lib.hid (fun w' (hf : Fr (fun _ => False) w w') => (RNx.same h hf).up)
  obtain ⟨i0, gi, gz0, gz1, gz2⟩ := info_parts info61
  obtain ⟨j0, ji, jz0, jz1, jz2⟩ := info_parts info3
  obtain ⟨pid, job, epoch, step, rank, cv, ns, state, code⟩ := x
  have hx : CoresOk w cv ns := hx
  have hxY : 0 < ns.length → ∀ g, cv.ownBlock = some g → g ≠ k := hxY
  have hf0 := (Fr.refl (fun _ => False) w).alloc (.cells #[.int .i64 pid, .int .i64 job, .int .i64 epoch, .int .i64 step, .int .i64 rank, cv, .int .i64 state, .int .i64 code] 61)
  have HM := Lib.hid (may65_any _ ⟨pid, job, epoch, step, rank, cv, ns, state, code⟩ (hx.fr0 hf0))
  have HB := Lib.hid (Blk.new w 61 #[.int .i64 pid, .int .i64 job, .int .i64 epoch, .int .i64 step, .int .i64 rank, cv, .int .i64 state, .int .i64 code])
  have HF := Lib.hid hf0
  have HX := Lib.hid hx
  obtain ⟨A, cap, rfl⟩ := hx.ints.sh
  obtain ⟨lv, sv, N, T, G, hR, h2, h3, h4, rfl⟩ := h
  obtain ⟨At, capt, rfl⟩ := row_shape hR.row
  obtain ⟨As, caps, rfl⟩ := row_shape hR.sig
  have HR := Lib.hid (hR.fr0 hf0)
  have HXK := Lib.hid hxY
  have y := fun i => HB.out.cell i
  have hle : ns.length ≤ 100000 := hx.le
  have HE := Lib.hid hR.len
  have HKW := Lib.hid hR.blk.lt
  simp only [TaskD.val] at *
  clear hf0 hR hx hxY
  go_enter Try.func50, Try.ntmps50
  go_wp2_with fail
  refine HM.out.mono ?_
  rintro e w1 ⟨bv, rfl, hf1⟩
  clear y
  have HF1 := Lib.hid (HF.out.then hf1)
  cases bv with
  | false =>
    clear hf1
    go_wp2
    go_ret2
    exact ⟨_, _, rfl, HS.out _ HF1.out⟩
  | true =>
    have hr := HR.out.fr0 hf1
    have c0 := hr.blk.cell 0
    by_cases hfull : T.length = 256
    · have b1 : ((T.length : Int) == 256) = true := by simp [hfull]
      clear hr hf1 hfull
      go_wp2
      go_ret2
      exact ⟨_, _, rfl, HS.out _ HF1.out⟩
    · have b1 : ((T.length : Int) == 256) = false := by simp; omega
      have c2 : w1.cell? ⟨k, 2, none⟩ = some (.int .i64 N) := hr.blk.cell 2
      have f2 := hr.blk.frozen 2
      have HB1 := Lib.hid (HB.out.fr hf1 (fun h => h))
      have hr2 := hr.setN (N + 1)
      have hfk : Fr (fun b => b = k) w1 (w1.setCell ⟨k, 2, none⟩ (.int .i64 (N + 1))) := (Fr.refl (fun b => b = k) w1).setCell (p := ⟨k, 2, none⟩) (Or.inl rfl) _
      have HF2 := Lib.hid ((HF1.out.mono (S' := fun b => b = k) (fun _ _ h => h.elim)).trans hfk (fun b _ hb => hb))
      have hkb : k < w.heap.size := by have := HF1.out; exact HKW.out
      have HB2 := Lib.hid (HB1.out.fr hfk (fun e => by omega))
      have HR2 := Lib.hid hr2
      clear hr hf1 hr2 hfk
      go_upto_region 6 with fail
      generalize (w1.setCell ⟨k, 2, none⟩ (.int .i64 (N + 1))) = W2 at *
      go_cut [6] (fun s6 wx => s6 = Value.pointer (some ⟨W2.heap.size, 0, none⟩) ∧ Hid (Blk wx W2.heap.size 61 #[.int .i64 (N + 1), .int .i64 job, .int .i64 epoch, .int .i64 step, .int .i64 rank, .slice none 0 0, .int .i64 0, .int .i64 0]) ∧ Hid (Fr (fun _ => False) W2 wx))
      case first =>
        have hfa : Fr (fun _ => False) W2 ((W2.alloc (.cells #[.int .i64 0, .int .i64 0, .int .i64 0, .int .i64 0, .int .i64 0, .slice none 0 0, .int .i64 0, .int .i64 0] 61)).drew) := ((Fr.refl _ W2).alloc _).drew
        obtain ⟨q0, q1, q2, q3, q4, q5, q6, q7⟩ := tc (HB2.out.fr hfa (fun h => h))
        obtain ⟨x0, x1, x2, x3, x4, x5, x6, x7⟩ := tc HB2.out
        have z2 : W2.cell? ⟨k, 2, none⟩ = some (.int .i64 (N + 1)) := HR2.out.blk.cell 2
        have z2' : World.cell? _ ⟨k, 2, none⟩ = some (.int .i64 (N + 1)) := (HR2.out.fr0 hfa).blk.cell 2
        have HO := Lib.hid (show Blk ((W2.alloc (.cells #[.int .i64 (N + 1), .int .i64 job, .int .i64 epoch, .int .i64 step, .int .i64 rank, .slice none 0 0, .int .i64 0, .int .i64 0] 61)).drew) W2.heap.size 61 _ from (Blk.new W2 61 _).fr (Fr.refl (fun _ => False) _).drew (fun h => h))
        have HO2 := Lib.hid (((Fr.refl (fun _ => False) W2).alloc (.cells #[.int .i64 (N + 1), .int .i64 job, .int .i64 epoch, .int .i64 step, .int .i64 rank, .slice none 0 0, .int .i64 0, .int .i64 0] 61)).drew)
        clear hfa
        go_region
        all_goals (go_wp2_with fail; go_meet; exact ⟨rfl, HO.out, HO2.out⟩)
      case rest =>
        obtain ⟨rfl, hbx, hfx⟩ := hcut
        have hF3 := HF2.out.then (hfx.out.mono (fun _ _ h => h.elim))
        have HF3 := Lib.hid hF3
        have HR3 := Lib.hid (HR2.out.fr0 hfx.out)
        have HY3 := Lib.hid hbx.out
        obtain ⟨x0, x1, x2, x3, x4, x5, x6, x7⟩ := tc (HB2.out.fr hfx.out (fun h => h))
        obtain ⟨y0, y1, y2, y3, y4, y5, y6, y7⟩ := tc HY3.out
        have hN := (HX.out.frL hF3 (fun h0 g hg => HXK.out h0 g hg)).news
        have hsz3 : w.heap.size ≤ wc.heap.size := hF3.size
        have hszb : w.heap.size ≤ W2.heap.size := HF2.out.size
        have hbw : W2.heap.size < wc.heap.size := HY3.out.lt
        have hfx0 := hfx.out
        clear hbx hfx hfx0 hF3
        go_upto_region 8 with (at_builtin; refine wpList_app _ rfl _ _ 45 rfl w.heap.size 3 j0 (.int .i64 0) 1 8 Try.underlying45 ji jz0 jz1 jz2 rfl (by decide) _ _ _ rfl (World.ownsRow_nil _ _ _ _) A ns.length cap (rowI ns) rfl hN (by unfold maxLen; omega) (by omega) hsz3 ns.length (by omega) ?_; intro A5 cap5 w5 hown5 hgrow5 hat5; have hf5 := Fr.of_grown (S := fun _ => False) hgrow5 (fun k e => by cases e); have hb5 := HY3.out.fr hf5 (fun h => h); have g5 := hb5.cell 5; have fg5 := hb5.frozen 5)
        have hFb : Fr (fun b => b = W2.heap.size) w5 (w5.setCell ⟨W2.heap.size, 5, none⟩ (.slice A5 ns.length cap5)) := (Fr.refl (fun b => b = W2.heap.size) w5).setCell (p := ⟨W2.heap.size, 5, none⟩) (Or.inl rfl) _
        have hY5 := hb5.set_ 5 (.slice A5 ns.length cap5)
        have hR5 := (HR3.out.fr0 hf5).fr hFb (fun i hi e => by have := HR2.out.lt hi; omega)
        have hC5 := ownsRow_fr hown5 hFb (fun b hb e => row_ne hown5 hb5 (by decide) hb e)
        have hF5 : Fr (fun b => b = k) w (w5.setCell ⟨W2.heap.size, 5, none⟩ (.slice A5 ns.length cap5)) := (HF3.out.then (hf5.mono (fun _ _ h => h.elim))).setCell (p := ⟨W2.heap.size, 5, none⟩) (Or.inr hszb) _
        clear g5 fg5 hb5 hf5 hFb hgrow5 hat5 hown5 hN x0 x1 x2 x3 x4 x5 x6 x7 y0 y1 y2 y3 y4 y5 y6 y7
        generalize (w5.setCell ⟨W2.heap.size, 5, none⟩ (.slice A5 ns.length cap5)) = W5 at *
        rw [List.nil_append] at hC5
        have hY5 : Blk W5 W2.heap.size 61 #[.int .i64 (N + 1), .int .i64 job, .int .i64 epoch, .int .i64 step, .int .i64 rank, .slice A5 ns.length cap5, .int .i64 0, .int .i64 0] := hY5
        have HY5 := Lib.hid hY5
        have HR5 := Lib.hid hR5
        have hsz5 := hF5.size
        have HP := Lib.hid (fun (w7 : World) (v2 : Value) (hf : Fr (fun _ => False) W5 w7) (hrow : w7.ownsRow W5.heap.size 61 8 v2 (T.length + 1) (T.flatMap TaskD.cells ++ [.int .i64 (N + 1), .int .i64 job, .int .i64 epoch, .int .i64 step, .int .i64 rank, .slice A5 ns.length cap5, .int .i64 0, .int .i64 0])) =>
          (⟨v2, hR5.pre8 (y := ⟨N + 1, job, epoch, step, rank, .slice A5 ns.length cap5, ns, 0, 0⟩) (ownsRow_base_a' hC5 (Nat.zero_le _)) hle hf hrow, ((hF5.then (hf.mono (fun _ _ h => h.elim))).setCell (p := ⟨k, 0, none⟩) (Or.inl rfl) v2), fun g hg => Nat.le_trans hsz5 (hrow.lt g hg).1⟩ :
            ∃ v2', RPre (w7.setCell ⟨k, 0, none⟩ v2) k v2' (.slice As G.length caps) (N + 1) (T ++ [⟨N + 1, job, epoch, step, rank, .slice A5 ns.length cap5, ns, 0, 0⟩]) G ∧ Fr (fun b => b = k) w (w7.setCell ⟨k, 0, none⟩ v2) ∧ ∀ g, v2'.ownBlock = some g → w.heap.size ≤ g))
        have HCB := Lib.hid (fun g (hg : (Value.slice A5 ns.length cap5).ownBlock = some g) => (hC5.lt g hg).1)
        have HON := Lib.hid (show ∀ u ∈ ([.int .i64 (N + 1), .int .i64 job, .int .i64 epoch, .int .i64 step, .int .i64 rank, .slice A5 ns.length cap5, .int .i64 0, .int .i64 0] : List Value), u.oneCell' = true from fun u hu => by
          simp only [List.mem_cons, List.not_mem_nil, or_false] at hu
          rcases hu with rfl | rfl | rfl | rfl | rfl | rfl | rfl | rfl <;> rfl)
        have hN5 : NewsOk W5 At T.length 8 (T.flatMap TaskD.cells) := NewsOk.of_row hR5.row (oneT (fun x hx => by obtain ⟨A, c, e⟩ := row_shape (hR5.cor x hx); exact ⟨A, _, c, e⟩))
        have hz1 : Fr (fun _ => False) W5 ((W5.alloc (.cells #[] 61)).drew) := ((Fr.refl _ W5).alloc _).drew
        have hz2 : Fr (fun _ => False) W5 (((W5.alloc (.cells #[] 61)).alloc (.cells #[.int .i64 (N + 1), .int .i64 job, .int .i64 epoch, .int .i64 step, .int .i64 rank, .slice A5 ns.length cap5, .int .i64 0, .int .i64 0] 61)).drew) := (((Fr.refl _ W5).alloc _).alloc _).drew
        have hz3 : Fr (fun _ => False) W5 (((W5.alloc (.cells #[.int .i64 (N + 1), .int .i64 job, .int .i64 epoch, .int .i64 step, .int .i64 rank, .slice A5 ns.length cap5, .int .i64 0, .int .i64 0] 61)).alloc (.cells #[] 61)).drew) := (((Fr.refl _ W5).alloc _).alloc _).drew
        have hE1 := empty_rowT W5 W5.heap.size (Nat.le_refl _)
        have hE3 := empty_rowT (W5.alloc (.cells #[.int .i64 (N + 1), .int .i64 job, .int .i64 epoch, .int .i64 step, .int .i64 rank, .slice A5 ns.length cap5, .int .i64 0, .int .i64 0] 61)) W5.heap.size (by simp)
        have HE1 := Lib.hid hE1.drew
        have HE2 := Lib.hid (hE1.alloc (.cells #[.int .i64 (N + 1), .int .i64 job, .int .i64 epoch, .int .i64 step, .int .i64 rank, .slice A5 ns.length cap5, .int .i64 0, .int .i64 0] 61)).drew
        have HE3 := Lib.hid (show (((W5.alloc (.cells #[.int .i64 (N + 1), .int .i64 job, .int .i64 epoch, .int .i64 step, .int .i64 rank, .slice A5 ns.length cap5, .int .i64 0, .int .i64 0] 61)).alloc (.cells #[] 61)).drew).ownsRow W5.heap.size 61 8 (.slice (some ⟨W5.heap.size + 1, 0, none⟩) 0 0) 0 [] from by simpa using hE3.drew)
        have HYB2 := Lib.hid (show Blk (((W5.alloc (.cells #[] 61)).alloc (.cells #[.int .i64 (N + 1), .int .i64 job, .int .i64 epoch, .int .i64 step, .int .i64 rank, .slice A5 ns.length cap5, .int .i64 0, .int .i64 0] 61)).drew) (W5.heap.size + 1) 61 #[.int .i64 (N + 1), .int .i64 job, .int .i64 epoch, .int .i64 step, .int .i64 rank, .slice A5 ns.length cap5, .int .i64 0, .int .i64 0] from by have := (Blk.new (W5.alloc (.cells #[] 61)) 61 #[.int .i64 (N + 1), .int .i64 job, .int .i64 epoch, .int .i64 step, .int .i64 rank, .slice A5 ns.length cap5, .int .i64 0, .int .i64 0]).fr (Fr.refl (fun _ => False) _).drew (fun h => h); simpa using this)
        have HYB3 := Lib.hid (show Blk (((W5.alloc (.cells #[.int .i64 (N + 1), .int .i64 job, .int .i64 epoch, .int .i64 step, .int .i64 rank, .slice A5 ns.length cap5, .int .i64 0, .int .i64 0] 61)).alloc (.cells #[] 61)).drew) W5.heap.size 61 #[.int .i64 (N + 1), .int .i64 job, .int .i64 epoch, .int .i64 step, .int .i64 rank, .slice A5 ns.length cap5, .int .i64 0, .int .i64 0] from ((Blk.new W5 61 #[.int .i64 (N + 1), .int .i64 job, .int .i64 epoch, .int .i64 step, .int .i64 rank, .slice A5 ns.length cap5, .int .i64 0, .int .i64 0]).alloc _).fr (Fr.refl (fun _ => False) _).drew (fun h => h))
        have HN1 := Lib.hid (hN5.fr0 hz1)
        have HN2 := Lib.hid (hN5.fr0 hz2)
        have HN3 := Lib.hid (hN5.fr0 hz3)
        have HZ1 := Lib.hid hz1
        have HZ2 := Lib.hid hz2
        have HZ3 := Lib.hid hz3
        obtain ⟨y0, y1, y2, y3, y4, y5, y6, y7⟩ := tc hY5
        have c0 : W5.cell? ⟨k, 0, none⟩ = some (.slice At T.length capt) := hR5.blk.cell 0
        have c0o : ∀ o, (W5.alloc o).cell? ⟨k, 0, none⟩ = some (.slice At T.length capt) := fun o => (hR5.blk.alloc o).cell 0
        have c0oo : ∀ o o', ((W5.alloc o).alloc o').cell? ⟨k, 0, none⟩ = some (.slice At T.length capt) := fun o o' => ((hR5.blk.alloc o).alloc o').cell 0
        obtain ⟨yo0, yo1, yo2, yo3, yo4, yo5, yo6, yo7⟩ := tc (hY5.alloc (.cells #[] 61))
        clear hY5 hR5 hF5 hC5 hE1 hE3 hz1 hz2 hz3 hN5
        go_cut [51] (fun _ wx => Hid (∃ v2', RPre wx k v2' (.slice As G.length caps) (N + 1) (T ++ [⟨N + 1, job, epoch, step, rank, .slice A5 ns.length cap5, ns, 0, 0⟩]) G ∧ Fr (fun b => b = k) w wx ∧ ∀ g, v2'.ownBlock = some g → w.heap.size ≤ g))
        case first =>
          go_region_law (first | (refine step_app _ (by rfl) _ _ _ (by rfl) W5.heap.size 61 i0 (.agg #[.int .i64 0, .int .i64 0, .int .i64 0, .int .i64 0, .int .i64 0, .slice none 0 0, .int .i64 0, .int .i64 0]) 8 80 Try.underlying56 gi gz0 gz1 gz2 rfl (by decide) (.slice (some ⟨W5.heap.size, 0, none⟩) 0 0) 0 [] (by rfl) HE1.out At T.length capt (T.flatMap TaskD.cells) (by rfl) HN1.out (by unfold maxLen; omega) (by omega) HZ1.out.size T.length (by omega) ?_; intro A6 cap6 w6 hown6 hgrow6 hat6; have hf6 := HZ1.out.grown hgrow6 (fun k e => by cases e; exact Or.inr (Nat.le_refl _)); have hb6 := HY5.out.fr hf6 (fun h => h); obtain ⟨v0, v1, v2, v3, v4, v5, v6, v7⟩ := tc hb6) | (refine step_app _ (by rfl) _ _ _ (by rfl) W5.heap.size 61 i0 (.agg #[.int .i64 0, .int .i64 0, .int .i64 0, .int .i64 0, .int .i64 0, .slice none 0 0, .int .i64 0, .int .i64 0]) 8 80 Try.underlying56 gi gz0 gz1 gz2 rfl (by decide) (.slice (some ⟨W5.heap.size, 0, none⟩) 0 0) 0 [] (by rfl) HE2.out At T.length capt (T.flatMap TaskD.cells) (by rfl) HN2.out (by unfold maxLen; omega) (by omega) HZ2.out.size T.length (by omega) ?_; intro A6 cap6 w6 hown6 hgrow6 hat6; have hf6 := HZ2.out.grown hgrow6 (fun k e => by cases e; exact Or.inr (Nat.le_refl _)); have hb6 := HY5.out.fr hf6 (fun h => h); obtain ⟨v0, v1, v2, v3, v4, v5, v6, v7⟩ := tc hb6; have hN6 := NewsOk.block (HYB2.out.fr (Fr.of_grown (S := fun b => b = W5.heap.size) hgrow6 (fun k e => by cases e; rfl)) (by omega)) rfl HON.out) | (refine step_app _ (by rfl) _ _ _ (by rfl) W5.heap.size 61 i0 (.agg #[.int .i64 0, .int .i64 0, .int .i64 0, .int .i64 0, .int .i64 0, .slice none 0 0, .int .i64 0, .int .i64 0]) 8 80 Try.underlying56 gi gz0 gz1 gz2 rfl (by decide) (.slice (some ⟨W5.heap.size + 1, 0, none⟩) 0 0) 0 [] (by rfl) HE3.out At T.length capt (T.flatMap TaskD.cells) (by rfl) HN3.out (by unfold maxLen; omega) (by omega) HZ3.out.size T.length (by omega) ?_; intro A6 cap6 w6 hown6 hgrow6 hat6; have hf6 := HZ3.out.grown hgrow6 (fun k e => by cases e; exact Or.inr (Nat.le_succ _)); have hb6 := HY5.out.fr hf6 (fun h => h); obtain ⟨v0, v1, v2, v3, v4, v5, v6, v7⟩ := tc hb6; have hN6 := NewsOk.block (HYB3.out.fr (Fr.of_grown (S := fun b => b = W5.heap.size + 1) hgrow6 (fun k e => by cases e; rfl)) (by omega)) rfl HON.out) | (refine step_app _ (by rfl) _ _ _ (by rfl) W5.heap.size 61 i0 (.agg #[.int .i64 0, .int .i64 0, .int .i64 0, .int .i64 0, .int .i64 0, .slice none 0 0, .int .i64 0, .int .i64 0]) 8 80 Try.underlying56 gi gz0 gz1 gz2 rfl (by decide) (.slice A6 T.length cap6) T.length _ (by rfl) hown6 (some ⟨_, 0, none⟩) 1 1 [.int .i64 (N + 1), .int .i64 job, .int .i64 epoch, .int .i64 step, .int .i64 rank, .slice A5 ns.length cap5, .int .i64 0, .int .i64 0] (by rfl) hN6 (by unfold maxLen; omega) (by omega) hf6.size (T.length + 1) rfl ?_; intro A7 cap7 w7 hown7 hgrow7 hat7; have hf7 := hf6.grown hgrow7 (fun k hk => Or.inr (hown6.lt k hk).1); have hk7 := HR5.out.blk.fr hf7 (fun h => h); have d0 := hk7.cell 0; have fd0 := hk7.frozen 0) | (refine step_app _ (by rfl) _ _ _ (by rfl) W5.heap.size 61 i0 (.agg #[.int .i64 0, .int .i64 0, .int .i64 0, .int .i64 0, .int .i64 0, .slice none 0 0, .int .i64 0, .int .i64 0]) 8 80 Try.underlying56 gi gz0 gz1 gz2 rfl (by decide) (.slice A6 T.length cap6) T.length _ (by rfl) (hown6.alloc _) (some ⟨w6.heap.size, 0, none⟩) 1 1 [.int .i64 (N + 1), .int .i64 job, .int .i64 epoch, .int .i64 step, .int .i64 rank, .slice A5 ns.length cap5, .int .i64 0, .int .i64 0] (by rfl) (NewsOk.block (Blk.new w6 61 #[.int .i64 (N + 1), .int .i64 job, .int .i64 epoch, .int .i64 step, .int .i64 rank, .slice A5 ns.length cap5, .int .i64 0, .int .i64 0]) rfl HON.out) (by unfold maxLen; omega) (by omega) (hf6.alloc _).size (T.length + 1) rfl ?_; intro A7 cap7 w7 hown7 hgrow7 hat7; have hf7 := (hf6.alloc _).grown hgrow7 (fun k hk => Or.inr (hown6.lt k hk).1); have hk7 := HR5.out.blk.fr hf7 (fun h => h); have d0 := hk7.cell 0; have fd0 := hk7.frozen 0))
          all_goals (go_wp2_with fail; go_meet; exact HP.out _ _ hf7 hown7)
        case rest =>
          obtain ⟨v8, hp1, hp2, hp3⟩ := hcut.out
          obtain ⟨A8, cap8, rfl⟩ := row_shape hp1.row
          have hszw : w.heap.size ≤ wc.heap.size := hp2.size
          have hlenG := HE.out
          have HPR := Lib.hid hp1
          have HP2 := Lib.hid hp2
          have HP3 := Lib.hid hp3
          have hE9 := empty_row wc wc.heap.size (Nat.le_refl _)
          have hz9 : Fr (fun _ => False) wc (wc.alloc (.cells #[] 3)) := (Fr.refl _ wc).alloc _
          have hN9 := (NewsOk.of_row hp1.sig (oneI G)).fr0 hz9
          have HZ9 := Lib.hid hz9
          have c1 : wc.cell? ⟨k, 1, none⟩ = some (.slice As G.length caps) := hp1.blk.cell 1
          have c1o : ∀ o, (wc.alloc o).cell? ⟨k, 1, none⟩ = some (.slice As G.length caps) := fun o => (hp1.blk.alloc o).cell 1
          have hone : ∀ u ∈ ([.int .i64 0] : List Value), u.oneCell' = true := oneI [0]
          have hGle : G.length ≤ 1000 := by omega
          clear hcut hp1 hp2 hp3 hz9 hlenG
          go_wp2_with (at_builtin; first | (refine wpList_app _ rfl _ _ 45 rfl wc.heap.size 3 j0 (.int .i64 0) 1 8 Try.underlying45 ji jz0 jz1 jz2 rfl (by decide) _ _ _ rfl hE9 As G.length caps (rowI G) rfl hN9 (by unfold maxLen; omega) (by omega) HZ9.out.size G.length (by omega) ?_; intro A9 cap9 w9 hown9 hgrow9 hat9; have hf9 := HZ9.out.grown hgrow9 (fun k e => by cases e; exact Or.inr (Nat.le_refl _))) | (refine wpList_app _ rfl _ _ 45 rfl wc.heap.size 3 j0 (.int .i64 0) 1 8 Try.underlying45 ji jz0 jz1 jz2 rfl (by decide) _ _ _ rfl (hown9.alloc _) (some ⟨w9.heap.size, 0, none⟩) 1 1 [.int .i64 0] rfl (NewsOk.block (Blk.new w9 3 #[.int .i64 0]) rfl hone) (by unfold maxLen; omega) (by omega) (hf9.alloc _).size (G.length + 1) rfl ?_; intro A10 cap10 w10 hown10 hgrow10 hat10; have hf10 := (hf9.alloc _).grown hgrow10 (fun k hk => Or.inr (hown9.lt k hk).1); have hk10 := HPR.out.blk.fr hf10 (fun h => h); have d1 := hk10.cell 1; have fd1 := hk10.frozen 1; have d2 : w10.cell? ⟨k, 2, none⟩ = some (.int .i64 (N + 1)) := hk10.cell 2; clear hk10))
          go_ret2
          refine ⟨_, _, rfl, _, ⟨_, _, _, _, _, HPR.out.done hf10 (by simpa using hown10) (by simp [HE.out]), by simp; omega, by omega, by omega, rfl⟩, ?_, ?_⟩
          · exact ((HP2.out.then (hf10.mono (fun _ _ h => h.elim))).setCell (p := ⟨k, 1, none⟩) (Or.inl rfl) _).mono (fun _ _ h => Or.inl h)
          · intro i hi
            rcases hi with rfl | hi | hi | ⟨x, hx, hi⟩
            · exact Or.inl (Or.inl rfl)
            · exact Or.inr (HP3.out _ hi)
            · exact Or.inr (Nat.le_trans hszw (hown10.lt i hi).1)
            · rcases List.mem_append.1 hx with hx | hx
              · exact Or.inl (Or.inr (Or.inr (Or.inr ⟨x, hx, hi⟩)))
              · rw [List.mem_singleton] at hx; subst hx
                exact Or.inr (HCB.out i hi)

end Go.Proofs.Ytomoomopodihhaa
