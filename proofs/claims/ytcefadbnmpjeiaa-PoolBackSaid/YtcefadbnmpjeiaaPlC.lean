/-
  The pools' plain law: each call at both.
-/
import Derived.Test.YtcefadbnmpjeiaaPlB
import Derived.Test.YtcefadbnmpjeiaaSm
import Derived.Deep.RegionHeld3
import Derived.Test.YtcefadbnmpjeiaaArgW
import Derived.Deep.Slices
namespace Go.Proofs.Ytcefadbnmpjeiaa
open Go.RowKit Go.Maps

theorem orAll_bit (i : Nat) : ∀ (Ms : List Nat) (a : Nat), (Ms.foldl orM a).testBit i = (a.testBit i || Ms.any fun M => M.testBit i)
  | [], a => by simp
  | M :: Ms, a => by
    rw [List.foldl_cons, orAll_bit i Ms]
    unfold orM
    rw [Nat.testBit_or, List.any_cons, Bool.or_assoc]
theorem orAll_any (i : Nat) (Ms : List Nat) : (orAll Ms).testBit i = Ms.any fun M => M.testBit i := by
  unfold orAll
  rw [orAll_bit, Nat.zero_testBit, Bool.false_or]

theorem giveAll_get {n : Int} {i : Nat} : ∀ (Ms : List Nat) {own : List Int} (_ : own.length ≤ 256) (_ : i < own.length), (giveAll own n Ms).getD i 0 = if (Ms.any fun M => M.testBit i) = true then n else own.getD i 0
  | [], own, _, _ => by simp [giveAll]
  | M :: Ms, own, hl, hi => by
    have e : giveAll own n (M :: Ms) = giveAll (giveL own n M) n Ms := rfl
    rw [e, giveAll_get Ms (by rw [giveL_len]; exact hl) (by rw [giveL_len]; exact hi), giveL_get hl hi, List.any_cons]
    by_cases h1 : M.testBit i = true
    · rw [if_pos h1, h1]; simp
    · have h1' : M.testBit i = false := by simpa using h1
      rw [if_neg h1, h1', Bool.false_or]
theorem giveAll_eq {own : List Int} (hl : own.length ≤ 256) (n : Int) (Ms : List Nat) : giveAll own n Ms = giveL own n (orAll Ms) := by
  refine List.ext_getElem (by rw [giveAll_len, giveL_len]) fun i h1 h2 => ?_
  have hi : i < own.length := by rw [giveAll_len] at h1; exact h1
  have e1 := giveAll_get Ms (n := n) hl hi
  have e2 := giveL_get (n := n) (M := orAll Ms) hl hi
  rw [orAll_any] at e2
  rw [List.getD_eq_getElem?_getD, List.getElem?_eq_getElem h1, Option.getD_some] at e1
  rw [List.getD_eq_getElem?_getD, List.getElem?_eq_getElem h2, Option.getD_some] at e2
  rw [e1, e2]

theorem minus_zero {M F : Nat} : minusM M F = 0 ↔ ∀ i, M.testBit i = true → F.testBit i = true := by
  constructor
  · intro h i hi
    have h1 : (minusM M F).testBit i = false := by rw [h]; exact Nat.zero_testBit _
    unfold minusM at h1
    rw [Nat.testBit_xor, Nat.testBit_and, hi] at h1
    cases hb : F.testBit i with
    | true => rfl
    | false => rw [hb] at h1; simp at h1
  · intro h
    refine eq_zero_of fun i => ?_
    unfold minusM
    rw [Nat.testBit_xor, Nat.testBit_and]
    cases hm : M.testBit i with
    | false => simp
    | true => rw [h i hm]; rfl

theorem count_zero : countM 0 = 0 := by
  unfold countM coresL
  rw [List.filter_eq_nil_iff.2 (fun c _ => by simp [hasM])]
  rfl

/-- Masks that are told are free, and there is something in them. -/
theorem ref_masks {l : LayD} {x : WishD} (h : (refP l x).2 = 0) : minusM (orAll (refP l x).1) x.free = 0 ∧ orAll (refP l x).1 ≠ 0 := by
  obtain ⟨hlen, Us, hp⟩ := apart_plain h
  obtain ⟨_, hr, hq⟩ := (refP_ok h).1
  constructor
  · rw [minus_zero]
    intro i hi
    rw [orAll_any, List.any_eq_true] at hi
    obtain ⟨M, hM, hb⟩ := hi
    exact minus_zero.1 (hp.mF M hM) i hb
  · intro h0
    have h1 : 0 < (refP l x).1.length := by omega
    have h2 := hp.cnt _ (List.getElem_mem h1)
    have h3 : (refP l x).1[0] = 0 := eq_zero_of fun i => by
      cases hb : ((refP l x).1[0]).testBit i with
      | false => rfl
      | true =>
        have : (orAll (refP l x).1).testBit i = true := by
          rw [orAll_any, List.any_eq_true]
          exact ⟨_, List.getElem_mem h1, hb⟩
        rw [h0, Nat.zero_testBit] at this
        cases this
    rw [h3, count_zero] at h2
    omega

theorem refP_none' {l : LayD} {x : WishD} (h : (refP l x).2 ≠ 0) : (refP l x).1 = [] := by
  unfold refP refA at *
  by_cases ho : okW l x
  · rw [if_pos ho] at h ⊢
    by_cases hc : ((l.order x.dist).filter (hasM x.free)).length < x.ranks.toNat * x.per.toNat
    · rw [if_pos hc]
    · rw [if_neg hc] at h; exact absurd rfl h
  · rw [if_neg ho]

section
variable {l : LayD} {H : List (Int × HoldD)} {own D : List Int}

theorem SimP.reserve (h : SimP l H own D) (n : Int) (x : WishD) : (reserveR l own n x).1 = (reserveP l H n x).1 ∧ SimP l (reserveP l H n x).2 (reserveR l own n x).2 D := by
  unfold reserveR reserveP freshE
  rw [h.has, h.free, assign_ref]
  cases hm : mayO n with
  | false => simpa using h
  | true =>
    simp only [if_true]
    cases hf : findH H n with
    | some u => simpa using h
    | none =>
      simp only [Option.isSome_none, Bool.false_eq_true, if_false, if_true]
      by_cases hr : (refP l (wishP x (freeP l H))).2 = 0
      · rw [if_pos hr]
        obtain ⟨h1, h2⟩ := ref_masks hr
        refine ⟨rfl, ?_⟩
        rw [giveAll_eq h.le256]
        exact h.give hm hf h1 h2 false
      · rw [if_neg hr]
        have hn := refP_none' hr
        refine ⟨Prod.ext hn rfl, ?_⟩
        rw [hn]
        exact h

theorem SimP.take (h : SimP l H own D) (n : Int) (M : Nat) : (takeR own D n M).1 = (takeP l H n M).1 ∧ SimP l (takeP l H n M).2 (takeR own D n M).2.1 (takeR own D n M).2.2 := by
  unfold takeR takeP freshE
  rw [h.has, h.free]
  cases hm : mayO n with
  | false => simpa using h
  | true =>
    simp only [if_true]
    by_cases hM : M = 0
    · rw [if_pos hM]
      cases hf : (findH H n).isSome with
      | true => simpa [hM] using h
      | false => simpa [hM] using h
    · rw [if_neg hM]
      cases hf : findH H n with
      | some u => simpa [hM] using h
      | none =>
        simp only [Option.isSome_none, Bool.false_eq_true, if_false, if_true]
        rw [if_neg (show ¬ ((0 : Int) = 1) by decide), if_neg hM]
        by_cases hX : minusM M (freeP l H) = 0
        · simp only [if_pos hX]
          exact ⟨trivial, h.give hm hf hX hM true⟩
        · simp only [if_neg hX]
          exact ⟨trivial, h⟩

theorem SimP.commits (h : SimP l H own D) (n : Int) : (commitR own D n).1 = (commitP H n).2 ∧ SimP l (commitP H n).1 own (commitR own D n).2 := by
  unfold commitR commitP
  rw [h.has]
  cases hf : findH H n with
  | none => exact ⟨rfl, h⟩
  | some u =>
    obtain ⟨M, d⟩ := u
    have hd := h.dn _ (findH_some hf)
    simp only at hd
    rw [← hd]
    simp only [Option.isSome_some, if_true]
    cases d with
    | true => exact ⟨rfl, h⟩
    | false => exact ⟨rfl, h.commit hf⟩

theorem SimP.releases (h : SimP l H own D) (n : Int) : (releaseR own D n).1 = (releaseP H n).2 ∧ SimP l (releaseP H n).1 (releaseR own D n).2.1 (releaseR own D n).2.2 := by
  unfold releaseR releaseP
  rw [h.has]
  cases hf : (findH H n).isSome with
  | false => exact ⟨rfl, h⟩
  | true => exact ⟨rfl, h.release hf⟩

end

theorem putH_len (H : List (Int × HoldD)) (n : Int) (e : HoldD) : (putH H n e).length ≤ H.length + 1 := by
  have := List.length_filter_le (fun p : Int × HoldD => p.1 != n) H
  simp only [putH, List.length_cons]
  omega
theorem reserveP_len (l : LayD) (H : List (Int × HoldD)) (n : Int) (x : WishD) : (reserveP l H n x).2.length ≤ H.length + 1 := by
  unfold reserveP
  split
  · split
    · exact putH_len _ _ _
    · exact Nat.le_succ _
  · exact Nat.le_succ _
theorem takeP_len (l : LayD) (H : List (Int × HoldD)) (n : Int) (M : Nat) : (takeP l H n M).2.length ≤ H.length + 1 := by
  unfold takeP
  split
  · exact Nat.le_succ _
  · split
    · exact Nat.le_succ _
    · split
      · split
        · exact putH_len _ _ _
        · exact Nat.le_succ _
      · exact Nat.le_succ _
theorem commitP_len (H : List (Int × HoldD)) (n : Int) : (commitP H n).1.length ≤ H.length + 1 := by
  unfold commitP
  split
  · exact Nat.le_succ _
  · split
    · exact Nat.le_succ _
    · exact putH_len _ _ _
theorem releaseP_len (H : List (Int × HoldD)) (n : Int) : (releaseP H n).1.length ≤ H.length + 1 := by
  unfold releaseP
  split
  · exact Nat.le_trans (List.length_filter_le _ _) (Nat.le_succ _)
  · exact Nat.le_succ _

theorem takeR_len (own D : List Int) (n : Int) (M : Nat) : (takeR own D n M).2.2.length ≤ D.length + 1 := by
  unfold takeR
  split
  · split
    · exact Nat.le_succ _
    · split
      · exact Nat.le_succ _
      · split
        · simp
        · exact Nat.le_succ _
  · exact Nat.le_succ _
theorem commitR_len (own D : List Int) (n : Int) : (commitR own D n).2.length ≤ D.length + 1 := by
  unfold commitR
  split
  · split
    · exact Nat.le_succ _
    · simp
  · exact Nat.le_succ _
theorem releaseR_len (own D : List Int) (n : Int) : (releaseR own D n).2.2.length ≤ D.length + 1 := by
  unfold releaseR
  split
  · exact Nat.le_trans (List.length_filter_le _ _) (Nat.le_succ _)
  · exact Nat.le_succ _

end Go.Proofs.Ytcefadbnmpjeiaa

/-
  'does': one call at both pools.
-/
namespace Go.Proofs.Ytcefadbnmpjeiaa
open Go.RowKit Go.Maps

structure OpP where
  do_ : Int
  own : Int
  x : WishD
  mask : Nat

def OpP.cells (o : OpP) : Array Value := #[.int .i64 o.do_, .int .i64 o.own, .int .u64 (wordM o.x.free 0 : Nat), .int .u64 (wordM o.x.free 1 : Nat), .int .u64 (wordM o.x.free 2 : Nat), .int .u64 (wordM o.x.free 3 : Nat), .int .i64 o.x.ranks, .int .i64 o.x.per, .int .i64 o.x.dist, .int .u64 (wordM o.mask 0 : Nat), .int .u64 (wordM o.mask 1 : Nat), .int .u64 (wordM o.mask 2 : Nat), .int .u64 (wordM o.mask 3 : Nat)]
def OpP.val (o : OpP) : Value := .agg o.cells
structure OpP.wf (o : OpP) : Prop where
  own : wf64 o.own
  mask : o.mask < 2 ^ 256

/-- What the holdings become. -/
def doesP (l : LayD) (H : List (Int × HoldD)) (o : OpP) : List (Int × HoldD) :=
  if o.do_ = 0 then (reserveP l H o.own o.x).2 else if o.do_ = 1 then (takeP l H o.own o.mask).2 else if o.do_ = 2 then (commitP H o.own).1 else if o.do_ = 3 then (releaseP H o.own).1 else H
theorem doesP_len (l : LayD) (H : List (Int × HoldD)) (o : OpP) : (doesP l H o).length ≤ H.length + 1 := by
  unfold doesP
  split
  · exact reserveP_len _ _ _ _
  · split
    · exact takeP_len _ _ _ _
    · split
      · exact commitP_len _ _
      · split
        · exact releaseP_len _ _
        · exact Nat.le_succ _

/-- Both pools in memory. -/
structure PSt (W : World) (base b m r : Nat) (l : LayD) (H : List (Int × HoldD)) (own D : List Int) (ov dv : Value) : Prop where
  pool : PoolAt W b m l H
  ref : RPool W base r l own D ov dv
  sim : SimP l H own D
  hb : b < base
  hm : m < base

section
variable {W W' : World} {base b m r : Nat} {l : LayD} {H H' : List (Int × HoldD)} {own D : List Int} {ov dv : Value}
theorem PSt.fr0 (h : PSt W base b m r l H own D ov dv) (hf : Fr (fun _ => False) W W') : PSt W' base b m r l H own D ov dv := ⟨h.pool.fr0 hf, h.ref.fr0 hf, h.sim, h.hb, h.hm⟩
theorem PSt.base_le (h : PSt W base b m r l H own D ov dv) : base ≤ W.heap.size := Nat.le_trans h.ref.hr (Nat.le_of_lt h.ref.blk.lt)
theorem PSt.ref_m (h : PSt W base b m r l H own D ov dv) (hf : Fr (fun i => i = m) W W') : RPool W' base r l own D ov dv := h.ref.fr hf (fun i hi e => by have := (h.ref.ge hi).1; have := h.hm; omega)
theorem PSt.pool_r (h : PSt W base b m r l H own D ov dv) {S : Nat → Prop} (hp : PoolAt W' b m l H') {W2 : World} (hf : Fr S W' W2) (hs : ∀ i, S i → base ≤ i) : PoolAt W2 b m l H' :=
  hp.fr hf (fun hb => by have := hs _ hb; have := h.hb; omega) (fun hb => by have := hs _ hb; have := h.hm; omega)
end

/-- The blocks that a call may turn. -/
def PS (m r : Nat) (ov dv : Value) (i : Nat) : Prop := i = m ∨ RS r ov dv i

/-- What a call leaves. -/
structure PNext (W W' : World) (base b m r : Nat) (l : LayD) (H' : List (Int × HoldD)) (n : Nat) (ov dv : Value) : Prop where
  ex : ∃ own' D' ov' dv', PSt W' base b m r l H' own' D' ov' dv' ∧ D'.length ≤ n + 1 ∧ ∀ i, RS r ov' dv' i → RS r ov dv i ∨ W.heap.size ≤ i
  fr : Fr (PS m r ov dv) W W'

theorem opc {W : World} {g : Nat} {a0 a1 a2 a3 a4 a5 a6 a7 a8 a9 b0 b1 b2 : Value} (h : Blk W g 71 #[a0, a1, a2, a3, a4, a5, a6, a7, a8, a9, b0, b1, b2]) :
    W.cell? ⟨g, 1, none⟩ = some a1 ∧ W.cell? ⟨g, 9, none⟩ = some a9 ∧ W.cell? ⟨g, 10, none⟩ = some b0 ∧ W.cell? ⟨g, 11, none⟩ = some b1 ∧ W.cell? ⟨g, 12, none⟩ = some b2 :=
  ⟨h.cell 1, h.cell 9, h.cell 10, h.cell 11, h.cell 12⟩
theorem opc1 {W : World} {g : Nat} {a0 a1 a2 a3 a4 a5 a6 a7 a8 a9 b0 b1 b2 : Value} (h : Blk W g 71 #[a0, a1, a2, a3, a4, a5, a6, a7, a8, a9, b0, b1, b2]) : W.cell? ⟨g, 1, none⟩ = some a1 := h.cell 1

set_option maxRecDepth 20000 in
set_option maxHeartbeats 2000000 in
theorem does38_two (w : World) (base b m r : Nat) (l : LayD) (H : List (Int × HoldD)) (own D : List Int) (ov dv : Value) (h : PSt w base b m r l H own D ov dv) (hH : H.length < 100000) (hD : D.length < 100000) (o : OpP) (ho : o.wf) (h2 : o.do_ = 2) :
    Calls Try.prog 38 #[.pointer (some ⟨b, 0, none⟩), .pointer (some ⟨r, 0, none⟩), o.val] w fun e w' => e = .returned (.bool true) ∧ PNext w w' base b m r l (commitP H o.own).1 D.length ov dv := by
  have HF := Lib.hid (((Fr.refl (fun _ => False) w).alloc (.cells o.cells 71)).drew)
  have HX := Lib.hid ((Blk.new w 71 o.cells).fr (Fr.refl (fun _ => False) _).drew (fun h => h))
  have h1 := h.fr0 HF.out
  have c48 := commit48_any _ b m l H h1.pool o.own ho.own hH
  have c69 := fun W (hW : RPool W base r l own D ov dv) (hb : base ≤ W.heap.size) => commit69_any W base r l own D ov dv hW hb h.sim.le256 hD o.own _ rfl
  obtain ⟨he, hs⟩ := h.sim.commits o.own
  rw [he] at c69
  have HS := Lib.hid hs
  have hDl := commitR_len own D o.own
  have hbs := h1.base_le
  generalize (commitP H o.own).2 = ec at *
  generalize (commitP H o.own).1 = H' at *
  generalize (commitR own D o.own).2 = D' at *
  have H1 := Lib.hid h1
  have C48 := Lib.hid c48
  have C69 := Lib.hid c69
  have hsz := HF.out.size
  have hrl := h1.ref.blk.lt
  have HRG := Lib.hid (fun i (hi : RS r ov dv i) => h1.ref.ge hi)
  have HRW := Lib.hid (fun i (hi : RS r ov dv i) => (h.ref.ge hi).2)
  have hmw := h.pool.map.lt
  have hml := h1.hm
  clear h1 c48 c69 hs h he ho
  obtain ⟨do_, n, ⟨F, r', q, d⟩, M⟩ := o
  simp only [OpP.val, OpP.cells] at *
  subst h2
  go_enter Try.func38, Try.ntmps38
  go_wp2
  go_region_held3 (fun W => W.cell? ⟨w.heap.size, 1, none⟩ = some (.int .i64 n))
    (first | exact opc1 HX.out | exact opc1 HX1.out | exact opc1 HX2.out)
    (first
      | (go_at_call 48; refine C48.out.mono ?_; rintro e w1 ⟨rfl, hp1, hf1⟩; have HX1 := Lib.hid (blk_m H1.out.pool.map HX.out hf1); have HP1 := Lib.hid hp1; have HF1 := Lib.hid hf1; have HR1 := Lib.hid (H1.out.ref_m hf1))
      | (go_at_call 69; refine (C69.out _ HR1.out (Nat.le_trans hbs HF1.out.size)).mono ?_; rintro e w2 ⟨rfl, hn2⟩; have HX2 := Lib.hid (HX1.out.fr hn2.fr (fun hi => by have := HRW.out _ hi; omega))))
  go_wp2
  go_ret
  obtain ⟨dv', hr2, hnew⟩ := hn2.ex
  have hf2 := hn2.fr
  have hs1 := HF1.out.size
  refine ⟨rfl, ⟨own, D', ov, dv', ⟨H1.out.pool_r HP1.out hf2 (fun i hi => (HRG.out i hi).1), hr2, HS.out, H1.out.hb, H1.out.hm⟩, hDl, fun i hi => (hnew i hi).imp id (fun h => Nat.le_trans (Nat.le_trans hsz hs1) h)⟩, ?_⟩
  exact ((HF.out.mono (S' := PS m r ov dv) (fun _ _ h => h.elim)).trans HF1.out (fun _ _ h => Or.inl h)).trans hf2 (fun _ _ h => Or.inr h)

end Go.Proofs.Ytcefadbnmpjeiaa

/-
  'does': one call at both pools, whichever.
-/
namespace Go.Proofs.Ytcefadbnmpjeiaa
open Go.RowKit Go.Maps

set_option maxRecDepth 20000 in
set_option maxHeartbeats 2000000 in
theorem does38_three (w : World) (base b m r : Nat) (l : LayD) (H : List (Int × HoldD)) (own D : List Int) (ov dv : Value) (h : PSt w base b m r l H own D ov dv) (hH : H.length < 100000) (hD : D.length < 100000) (o : OpP) (ho : o.wf) (h2 : o.do_ = 3) :
    Calls Try.prog 38 #[.pointer (some ⟨b, 0, none⟩), .pointer (some ⟨r, 0, none⟩), o.val] w fun e w' => e = .returned (.bool true) ∧ PNext w w' base b m r l (releaseP H o.own).1 D.length ov dv := by
  have HF := Lib.hid (((Fr.refl (fun _ => False) w).alloc (.cells o.cells 71)).drew)
  have HX := Lib.hid ((Blk.new w 71 o.cells).fr (Fr.refl (fun _ => False) _).drew (fun h => h))
  have h1 := h.fr0 HF.out
  have c45 := release45_any _ b m l H h1.pool o.own ho.own
  have c70 := fun W (hW : RPool W base r l own D ov dv) (hb : base ≤ W.heap.size) => release70_any W base r l own D ov dv hW hb h.sim.le256 hD o.own _ rfl
  obtain ⟨he, hs⟩ := h.sim.releases o.own
  rw [he] at c70
  have HS := Lib.hid hs
  have hDl := releaseR_len own D o.own
  have hbs := h1.base_le
  generalize (releaseP H o.own).2 = ec at *
  generalize (releaseP H o.own).1 = H' at *
  generalize (releaseR own D o.own).2.2 = D' at *
  generalize (releaseR own D o.own).2.1 = own' at *
  have H1 := Lib.hid h1
  have C45 := Lib.hid c45
  have C70 := Lib.hid c70
  have hsz := HF.out.size
  have hrl := h1.ref.blk.lt
  have HRG := Lib.hid (fun i (hi : RS r ov dv i) => h1.ref.ge hi)
  have HRW := Lib.hid (fun i (hi : RS r ov dv i) => (h.ref.ge hi).2)
  have hmw := h.pool.map.lt
  have hml := h1.hm
  clear h1 c45 c70 hs h he ho
  obtain ⟨do_, n, ⟨F, r', q, d⟩, M⟩ := o
  simp only [OpP.val, OpP.cells] at *
  subst h2
  go_enter Try.func38, Try.ntmps38
  go_wp2
  go_region_held3 (fun W => W.cell? ⟨w.heap.size, 1, none⟩ = some (.int .i64 n))
    (first | exact opc1 HX.out | exact opc1 HX1.out | exact opc1 HX2.out)
    (first
      | (go_at_call 45; refine C45.out.mono ?_; rintro e w1 ⟨rfl, hp1, hf1⟩; have HX1 := Lib.hid (blk_m H1.out.pool.map HX.out hf1); have HP1 := Lib.hid hp1; have HF1 := Lib.hid hf1; have HR1 := Lib.hid (H1.out.ref_m hf1))
      | (go_at_call 70; refine (C70.out _ HR1.out (Nat.le_trans hbs HF1.out.size)).mono ?_; rintro e w2 ⟨rfl, hn2⟩; have HX2 := Lib.hid (HX1.out.fr hn2.fr (fun hi => by have := HRW.out _ hi; omega))))
  go_wp2
  go_ret
  obtain ⟨dv', hr2, hnew⟩ := hn2.ex
  have hf2 := hn2.fr
  have hs1 := HF1.out.size
  refine ⟨rfl, ⟨own', D', ov, dv', ⟨H1.out.pool_r HP1.out hf2 (fun i hi => (HRG.out i hi).1), hr2, HS.out, H1.out.hb, H1.out.hm⟩, hDl, fun i hi => (hnew i hi).imp id (fun h => Nat.le_trans (Nat.le_trans hsz hs1) h)⟩, ?_⟩
  exact ((HF.out.mono (S' := PS m r ov dv) (fun _ _ h => h.elim)).trans HF1.out (fun _ _ h => Or.inl h)).trans hf2 (fun _ _ h => Or.inr h)

set_option maxRecDepth 20000 in
set_option maxHeartbeats 2000000 in
theorem does38_one (w : World) (base b m r : Nat) (l : LayD) (H : List (Int × HoldD)) (own D : List Int) (ov dv : Value) (h : PSt w base b m r l H own D ov dv) (hH : H.length < 100000) (hD : D.length < 100000) (o : OpP) (ho : o.wf) (h2 : o.do_ = 1) :
    Calls Try.prog 38 #[.pointer (some ⟨b, 0, none⟩), .pointer (some ⟨r, 0, none⟩), o.val] w fun e w' => e = .returned (.bool true) ∧ PNext w w' base b m r l (takeP l H o.own o.mask).2 D.length ov dv := by
  have HF := Lib.hid (((Fr.refl (fun _ => False) w).alloc (.cells o.cells 71)).drew)
  have HX := Lib.hid ((Blk.new w 71 o.cells).fr (Fr.refl (fun _ => False) _).drew (fun h => h))
  have h1 := h.fr0 HF.out
  have c45 := take47_any _ b m l H h1.pool o.own ho.own o.mask ho.mask hH _ rfl
  have c70 := fun W (hW : RPool W base r l own D ov dv) (hb : base ≤ W.heap.size) => take68_any W base r l own D ov dv hW hb h.sim.le256 hD o.own o.mask ho.mask _ rfl
  obtain ⟨he, hs⟩ := h.sim.take o.own o.mask
  rw [he] at c70
  have HS := Lib.hid hs
  have hDl := takeR_len own D o.own o.mask
  have hbs := h1.base_le
  generalize (takeP l H o.own o.mask).1 = ec at *
  generalize (takeP l H o.own o.mask).2 = H' at *
  generalize (takeR own D o.own o.mask).2.2 = D' at *
  generalize (takeR own D o.own o.mask).2.1 = own' at *
  have H1 := Lib.hid h1
  have C45 := Lib.hid c45
  have C70 := Lib.hid c70
  have hsz := HF.out.size
  have hrl := h1.ref.blk.lt
  have HRG := Lib.hid (fun i (hi : RS r ov dv i) => h1.ref.ge hi)
  have HRW := Lib.hid (fun i (hi : RS r ov dv i) => (h.ref.ge hi).2)
  have hmw := h.pool.map.lt
  have hml := h1.hm
  clear h1 c45 c70 hs h he ho
  obtain ⟨do_, n, ⟨F, r', q, d⟩, M⟩ := o
  simp only [OpP.val, OpP.cells, valM, Ytcefadbnmpjeiaa.cellsM] at *
  subst h2
  go_enter Try.func38, Try.ntmps38
  go_wp2
  go_region_held3 (fun W => W.cell? ⟨w.heap.size, 1, none⟩ = some (.int .i64 n) ∧ W.cell? ⟨w.heap.size, 9, none⟩ = some (.int .u64 (wordM M 0 : Nat)) ∧ W.cell? ⟨w.heap.size, 10, none⟩ = some (.int .u64 (wordM M 1 : Nat)) ∧ W.cell? ⟨w.heap.size, 11, none⟩ = some (.int .u64 (wordM M 2 : Nat)) ∧ W.cell? ⟨w.heap.size, 12, none⟩ = some (.int .u64 (wordM M 3 : Nat)))
    (first | exact opc HX.out | exact opc HX1.out | exact opc HX2.out)
    (first
      | (go_at_call 47; refine C45.out.mono ?_; rintro e w1 ⟨rfl, hp1, hf1⟩; have HX1 := Lib.hid (blk_m H1.out.pool.map HX.out hf1); have HP1 := Lib.hid hp1; have HF1 := Lib.hid hf1; have HR1 := Lib.hid (H1.out.ref_m hf1))
      | (go_at_call 68; refine (C70.out _ HR1.out (Nat.le_trans hbs HF1.out.size)).mono ?_; rintro e w2 ⟨rfl, hn2⟩; have HX2 := Lib.hid (HX1.out.fr hn2.fr (fun hi => by have := HRW.out _ hi; omega))))
  go_wp2
  go_ret
  obtain ⟨dv', hr2, hnew⟩ := hn2.ex
  have hf2 := hn2.fr
  have hs1 := HF1.out.size
  refine ⟨rfl, ⟨own', D', ov, dv', ⟨H1.out.pool_r HP1.out hf2 (fun i hi => (HRG.out i hi).1), hr2, HS.out, H1.out.hb, H1.out.hm⟩, hDl, fun i hi => (hnew i hi).imp id (fun h => Nat.le_trans (Nat.le_trans hsz hs1) h)⟩, ?_⟩
  exact ((HF.out.mono (S' := PS m r ov dv) (fun _ _ h => h.elim)).trans HF1.out (fun _ _ h => Or.inl h)).trans hf2 (fun _ _ h => Or.inr h)

set_option maxRecDepth 20000 in
set_option maxHeartbeats 4000000 in
theorem does38_zero (w : World) (base b m r : Nat) (l : LayD) (H : List (Int × HoldD)) (own D : List Int) (ov dv : Value) (h : PSt w base b m r l H own D ov dv) (hH : H.length < 100000) (hD : D.length < 100000) (o : OpP) (ho : o.wf) (h2 : o.do_ = 0) :
    Calls Try.prog 38 #[.pointer (some ⟨b, 0, none⟩), .pointer (some ⟨r, 0, none⟩), o.val] w fun e w' => e = .returned (.bool true) ∧ PNext w w' base b m r l (reserveP l H o.own o.x).2 D.length ov dv := by
  have HF := Lib.hid (((Fr.refl (fun _ => False) w).alloc (.cells o.cells 71)).alloc (.cells o.x.cells 50))
  have HX := Lib.hid ((Blk.new w 71 o.cells).alloc (.cells o.x.cells 50))
  have hy := Blk.new (w.alloc (.cells o.cells 71)) 50 o.x.cells
  rw [World.size_alloc] at hy
  have HY := Lib.hid hy
  have h1 := h.fr0 HF.out
  have c46 := reserve46_any _ b m l H h1.pool o.own ho.own o.x hH _ rfl
  have c66 := fun W (hW : RPool W base r l own D ov dv) => reserve66_any W base r l own D ov dv hW h.sim.le256 o.own o.x _ rfl
  obtain ⟨he, hs⟩ := h.sim.reserve o.own o.x
  rw [he] at c66
  have HS := Lib.hid hs
  have hbs := h1.base_le
  have hlt : ∀ M ∈ (reserveP l H o.own o.x).1.1, M < 2 ^ 256 := by
    intro M hM
    unfold reserveP at hM
    split at hM
    · split at hM
      · rw [assign_ref] at hM; exact refP_lt _ _ M hM
      · cases hM
    · cases hM
  have hle : (reserveP l H o.own o.x).1.1.length ≤ 32 := by
    unfold reserveP
    split
    · split
      · rw [assign_ref]; exact refP_len _ _
      · simp
    · simp
  generalize (reserveP l H o.own o.x).2 = H' at *
  generalize hA : (reserveP l H o.own o.x).1 = A at *
  clear hA
  obtain ⟨Ms, ec⟩ := A
  generalize (reserveR l own o.own o.x).2 = own' at *
  simp only at c46 c66 hlt hle
  have c67 := fun W v (hv : MsV W v Ms) => told67_any W v Ms hv (by omega)
  have c27 := fun W v v' (hv : MsV W v Ms) (hv' : MsV W v' Ms) => same27_any W v v' Ms Ms hv hv' (by omega) (by omega) hlt hlt true (by simp [Hid])
  have H1 := Lib.hid h1
  have C46 := Lib.hid c46
  have C66 := Lib.hid c66
  have C67 := Lib.hid c67
  have C27 := Lib.hid c27
  have hsz := HF.out.size
  have HRG := Lib.hid (fun i (hi : RS r ov dv i) => h1.ref.ge hi)
  have HRW := Lib.hid (fun i (hi : RS r ov dv i) => (h.ref.ge hi).2)
  have hml := h1.hm
  clear h1 c46 c66 c67 c27 hs h he ho hlt hle hy
  obtain ⟨do_, n, ⟨F, r', q, d⟩, M⟩ := o
  simp only [OpP.val, OpP.cells, WishD.val, WishD.cells] at *
  subst h2
  go_enter Try.func38, Try.ntmps38
  go_wp2_with fail
  refine C46.out.mono ?_
  rintro e w1 ⟨v1, rfl, hrow1, hp1, hf1⟩
  have HX1 := Lib.hid (blk_m H1.out.pool.map HX.out hf1)
  have HP1 := Lib.hid hp1
  have HF1 := Lib.hid hf1
  have HR1 := Lib.hid (H1.out.ref_m hf1)
  have HV1 := Lib.hid hrow1
  have y := fun i => HX1.out.cell i
  obtain ⟨A1, cap1, rfl⟩ := row_shape hrow1
  have hs1 := hf1.size
  clear hrow1 hp1 hf1
  go_wp2_with fail
  refine (C66.out _ HR1.out).mono ?_
  rintro e w2 ⟨v2, rfl, hrow2, hr2, hf2⟩
  clear y
  have HR2 := Lib.hid hr2
  have HF2 := Lib.hid hf2
  have hv1 := (MsV.of_row HV1.out).fr hf2 (fun g hg hi => by have h1 := (HV1.out.lt g hg).1; have h2 := HRW.out g hi; simp only [World.size_alloc] at h1; omega)
  have hv2 := MsV.of_row hrow2
  obtain ⟨A2, cap2, rfl⟩ := row_shape hrow2
  have HV2 := Lib.hid hv2
  have HVA := Lib.hid hv1
  clear hv1 hv2 hrow2 hr2 hf2
  go_wp2_with fail
  refine (C67.out _ _ HVA.out).mono ?_
  rintro e w3 ⟨v3, rfl, hrow3, hf3⟩
  have HF3 := Lib.hid hf3
  have HV3 := Lib.hid (MsV.of_row hrow3)
  have HV23 := Lib.hid (HV2.out.fr0 hf3)
  clear hrow3 hf3
  go_wp2_with fail
  refine (C27.out _ _ _ HV3.out HV23.out).mono ?_
  rintro e w4 ⟨rfl, hf4⟩
  have be : (ec == ec) = true := by simp
  go_wp2_with fail
  go_ret
  have hf34 := HF3.out.then hf4
  refine ⟨rfl, ⟨own', D, ov, dv, ⟨(H1.out.pool_r HP1.out HF2.out (fun i hi => (HRG.out i hi).1)).fr0 hf34, HR2.out.fr0 hf34, HS.out, H1.out.hb, H1.out.hm⟩, Nat.le_succ _, fun i hi => Or.inl hi⟩, ?_⟩
  exact (((HF.out.mono (S' := PS m r ov dv) (fun _ _ h => h.elim)).trans HF1.out (fun _ _ h => Or.inl h)).trans HF2.out (fun _ _ h => Or.inr h)).trans hf34 (fun _ _ h => h.elim)

set_option maxRecDepth 20000 in
set_option maxHeartbeats 1000000 in
theorem does38_other (w : World) (base b m r : Nat) (l : LayD) (H : List (Int × HoldD)) (own D : List Int) (ov dv : Value) (h : PSt w base b m r l H own D ov dv) (o : OpP) (h0 : o.do_ ≠ 0) (h1 : o.do_ ≠ 1) (h2 : o.do_ ≠ 2) (h3 : o.do_ ≠ 3) :
    Calls Try.prog 38 #[.pointer (some ⟨b, 0, none⟩), .pointer (some ⟨r, 0, none⟩), o.val] w fun e w' => e = .returned (.bool true) ∧ PNext w w' base b m r l H D.length ov dv := by
  have HF := Lib.hid ((Fr.refl (fun _ => False) w).alloc (.cells o.cells 71))
  have H1 := Lib.hid (h.fr0 HF.out)
  have b0 : (o.do_ == 0) = false := by simpa using h0
  have b1 : (o.do_ == 1) = false := by simpa using h1
  have b2 : (o.do_ == 2) = false := by simpa using h2
  have b3 : (o.do_ == 3) = false := by simpa using h3
  clear h h0 h1 h2 h3
  obtain ⟨do_, n, ⟨F, r', q, d⟩, M⟩ := o
  simp only [OpP.val, OpP.cells] at *
  go_enter Try.func38, Try.ntmps38
  go_wp2
  go_ret
  exact ⟨rfl, ⟨own, D, ov, dv, H1.out, Nat.le_succ _, fun i hi => Or.inl hi⟩, HF.out.mono (fun _ _ h => h.elim)⟩

theorem does38_any (w : World) (base b m r : Nat) (l : LayD) (H : List (Int × HoldD)) (own D : List Int) (ov dv : Value) (h : PSt w base b m r l H own D ov dv) (hH : H.length < 100000) (hD : D.length < 100000) (o : OpP) (ho : o.wf) :
    Calls Try.prog 38 #[.pointer (some ⟨b, 0, none⟩), .pointer (some ⟨r, 0, none⟩), o.val] w fun e w' => e = .returned (.bool true) ∧ PNext w w' base b m r l (doesP l H o) D.length ov dv := by
  unfold doesP
  by_cases h0 : o.do_ = 0
  · rw [if_pos h0]; exact does38_zero w base b m r l H own D ov dv h hH hD o ho h0
  · rw [if_neg h0]
    by_cases h1 : o.do_ = 1
    · rw [if_pos h1]; exact does38_one w base b m r l H own D ov dv h hH hD o ho h1
    · rw [if_neg h1]
      by_cases h2 : o.do_ = 2
      · rw [if_pos h2]; exact does38_two w base b m r l H own D ov dv h hH hD o ho h2
      · rw [if_neg h2]
        by_cases h3 : o.do_ = 3
        · rw [if_pos h3]; exact does38_three w base b m r l H own D ov dv h hH hD o ho h3
        · rw [if_neg h3]; exact does38_other w base b m r l H own D ov dv h o h0 h1 h2 h3

end Go.Proofs.Ytcefadbnmpjeiaa

/-
  The pool's laws' arguments: scripts.
-/
namespace Go.Proofs.Ytcefadbnmpjeiaa
open Go.ChangeShapes Go.WideShapes Go.ChangeAt Go.RowKit Go.Deep

/-- A script lies behind an address below block B. -/
structure OpsP (w : World) (B : Nat) (A : Option Addr) (l : List OpP) : Prop where
  at_ : ∀ k (hk : k < l.length), ∃ b off, A = some ⟨b, off, none⟩ ∧ b < B ∧ ∀ j u, (l[k]'hk).cells[j]? = some u → w.cell? ⟨b, off + k * 13 + j, none⟩ = some u
  wf : ∀ o ∈ l, o.wf

theorem OpsP.below {w w' : World} {B : Nat} {A : Option Addr} {l : List OpP} (h : OpsP w B A l) (hb : Below B w w') : OpsP w' B A l where
  at_ k hk := by
    obtain ⟨b, off, rfl, hB, hc⟩ := h.at_ k hk
    exact ⟨b, off, rfl, hB, fun j u hu => (hb.cell (p := ⟨b, off + k * 13 + j, none⟩) hB).trans (hc j u hu)⟩
  wf := h.wf

theorem cells71 : Try.prog.cellsOf 71 = 13 := by kernel_rfl
theorem cells64 : Try.prog.cellsOf 64 = 1 := by kernel_rfl

instance : Inhabited OpP := ⟨⟨0, 0, ⟨0, 0, 0, 0⟩, 0⟩⟩

section
variable {H : Type} {enc : TypeId × Value → H} {W : World} {sp : Nat → Bool}

set_option maxRecDepth 100000 in
theorem wish_cells {fuel : Nat} {c0 c1 c2 c3 c4 c5 c6 : Value} {y : DataW H × List MemPlace} (hf : DataW.trod enc Try.prog W 0 sp true fuel 45 [c0, c1, c2, c3, c4, c5, c6] = some y) :
    ∃ x : WishD, [c0, c1, c2, c3, c4, c5, c6] = x.cells.toList := by
  obtain ⟨xs, n, _, _, hcl, hlen, hg⟩ := DataW.trod_struct Try.underlying45 hf
  have some_ : ∀ i, i < 4 → ∃ y, xs[i]? = some y := fun i hi => by
    have : xs.length = 4 := hlen
    exact ⟨xs[i], List.getElem?_eq_getElem (by omega)⟩
  obtain ⟨y0, e0⟩ := some_ 0 (by omega)
  obtain ⟨M, hM, rfl, rfl, rfl, rfl⟩ := mask_cells (c0 := c0) (c1 := c1) (c2 := c2) (c3 := c3) (by simpa [cells40, e0] using hg 0 _ rfl)
  obtain ⟨n1, rfl, w1⟩ := int_cell (c := c4) (by simpa [cells3] using hg 1 _ rfl) (by obtain ⟨y, e⟩ := some_ 1 (by omega); rw [e]; rfl)
  obtain ⟨n2, rfl, w2⟩ := int_cell (c := c5) (by simpa [cells3] using hg 2 _ rfl) (by obtain ⟨y, e⟩ := some_ 2 (by omega); rw [e]; rfl)
  obtain ⟨n3, rfl, w3⟩ := int_cell (c := c6) (by simpa [cells3] using hg 3 _ rfl) (by obtain ⟨y, e⟩ := some_ 3 (by omega); rw [e]; rfl)
  exact ⟨⟨M, n1, n2, n3⟩, rfl⟩

set_option maxRecDepth 100000 in
theorem op_cells71 {fuel : Nat} {cs : List Value} {y : DataW H × List MemPlace} (h : DataW.trod enc Try.prog W 0 sp true fuel 71 cs = some y) :
    ∃ o : OpP, cs = o.cells.toList ∧ o.wf := by
  obtain ⟨xs, n, _, _, hcl, hlen, hg⟩ := DataW.trod_struct Try.underlying71 h
  rw [cells71] at hcl
  match cs, hcl with
  | [c0, c1, c2, c3, c4, c5, c6, c7, c8, c9, ca, cb, cc], _ =>
    have some_ : ∀ i, i < 4 → ∃ y, xs[i]? = some y := fun i hi => by
      have : xs.length = 4 := hlen
      exact ⟨xs[i], List.getElem?_eq_getElem (by omega)⟩
    obtain ⟨n0, rfl, w0⟩ := int_cell (c := c0) (by simpa [cells3] using hg 0 _ rfl) (by obtain ⟨y, e⟩ := some_ 0 (by omega); rw [e]; rfl)
    obtain ⟨n1, rfl, w1⟩ := int_cell (c := c1) (by simpa [cells3] using hg 1 _ rfl) (by obtain ⟨y, e⟩ := some_ 1 (by omega); rw [e]; rfl)
    obtain ⟨y2, e2⟩ := some_ 2 (by omega)
    obtain ⟨x, hx⟩ := wish_cells (c0 := c2) (c1 := c3) (c2 := c4) (c3 := c5) (c4 := c6) (c5 := c7) (c6 := c8) (by simpa [cells3, cells45, e2] using hg 2 _ rfl)
    obtain ⟨y3, e3⟩ := some_ 3 (by omega)
    obtain ⟨M, hM, rfl, rfl, rfl, rfl⟩ := mask_cells (c0 := c9) (c1 := ca) (c2 := cb) (c3 := cc) (by simpa [cells3, cells45, cells40, e3] using hg 3 _ rfl)
    refine ⟨⟨n0, n1, x, M⟩, ?_, w1, hM⟩
    simp only [WishD.cells, List.cons.injEq, and_true] at hx
    obtain ⟨rfl, rfl, rfl, rfl, rfl, rfl, rfl⟩ := hx
    rfl

set_option maxRecDepth 100000 in
theorem script_cells {fuel : Nat} {cs : List Value} {y : DataW H × List MemPlace} (h : DataW.trod enc Try.prog W 0 sp true fuel 64 cs = some y) :
    ∃ A l cap, cs = [.slice A (List.length l) cap] ∧ OpsP W W.heap.size A l ∧ l.length ≤ maxLen := by
  rcases open_slice Try.underlying64 h with ⟨h1, _⟩ | ⟨a, len, cap, m, n, D, Pl, h1, _, h2, h3, hm, _, h5⟩
  · exact ⟨none, [], 0, by simpa using h1, ⟨fun k hk => by simp at hk, by simp⟩, by simp [maxLen]⟩
  · have hlm : len ≤ m := by rw [hm]; split <;> omega
    rw [cells71] at h5
    obtain ⟨f, hf⟩ := choose_lt (α := OpP) (p := fun i o => (∀ j u, o.cells[j]? = some u → W.cell? ((a.add (i * 13)).add j) = some u) ∧ o.wf) (n := m) (fun i hi => by
      obtain ⟨cs', hc, ht⟩ := h5 i hi
      obtain ⟨o, rfl, hw⟩ := op_cells71 ht
      obtain ⟨_, _, hcell⟩ := World.cells?_some hc
      refine ⟨o, fun j u hu => ?_, hw⟩
      have hj : j < 13 := by
        have := (Array.getElem?_eq_some_iff.mp hu).1
        exact this
      rw [hcell j hj]
      simpa using hu)
    refine ⟨some a, (List.range len).map f, cap, by simpa using h1, ⟨fun k hk => ?_, ?_⟩, by simp; omega⟩
    · simp only [List.length_map, List.length_range] at hk
      have h0 := (hf 0 (by omega)).1 0 _ rfl
      obtain ⟨b, off, spot⟩ := a
      have hspot : spot = none := by simpa [Addr.add] using World.cell?_spot h0
      subst hspot
      refine ⟨b, off, rfl, World.block_lt_of_cell? W _ (by simpa [Addr.add] using h0), fun j u hu => ?_⟩
      simp only [List.getElem_map, List.getElem_range] at hu
      have := (hf k (by omega)).1 j u hu
      by_cases hk0 : k = 0
      · subst hk0
        by_cases hj0 : j = 0
        · subst hj0; simpa [Addr.add] using this
        · simpa [Addr.add, hj0] using this
      · have hk1 : k * 13 ≠ 0 := by omega
        by_cases hj0 : j = 0
        · subst hj0; simpa [Addr.add, hk1] using this
        · simpa [Addr.add, hk1, hj0] using this
    · intro o ho
      obtain ⟨i, hi, rfl⟩ := List.mem_map.mp ho
      rw [List.mem_range] at hi
      exact (hf i (by omega)).2

set_option maxRecDepth 100000 in
theorem script_arg {r : Reach} {b0 : Nat} {v : Value} {d : DataW H} {p : List MemPlace} (hv : Value.okWide Try.prog W r b0 64 v) (h : DataW.Trod enc Try.prog W 0 sp true 64 v d p) :
    ∃ A l cap, v = .slice A (List.length l) cap ∧ OpsP W W.heap.size A l ∧ l.length ≤ maxLen := by
  obtain ⟨a0, len, cap, rfl⟩ := okWide_slice Try.underlying64 hv
  obtain ⟨fuel, hf⟩ := h
  obtain ⟨A, l, cap', h1, h2⟩ := script_cells hf
  exact ⟨A, l, cap', by simpa [Value.cells] using h1, h2⟩

set_option maxRecDepth 100000 in
theorem op_arg {r : Reach} {b0 : Nat} {v : Value} {d : DataW H} {p : List MemPlace} (hv : Value.okWide Try.prog W r b0 71 v) (h : DataW.Trod enc Try.prog W 0 sp true 71 v d p) :
    ∃ o : OpP, v = o.val ∧ o.wf := by
  obtain ⟨cs, rfl, _⟩ := okWide_struct Try.underlying71 hv
  obtain ⟨fuel, hf⟩ := h
  have hf' : DataW.trod enc Try.prog W 0 sp true fuel 71 cs.toList = some (d, p) := hf
  obtain ⟨o, ho, hw⟩ := op_cells71 hf'
  refine ⟨o, ?_, hw⟩
  have hcs : cs = cs.toList.toArray := by simp
  rw [ho] at hcs
  rw [hcs]
  rfl
end

/-- The cells of one call in a script. -/
def ElP (W : World) (g o : Nat) (x : OpP) : Prop := ∀ j u, x.cells[j]? = some u → W.cell? ⟨g, o + j, none⟩ = some u
theorem ElP.below {W W' : World} {B g o : Nat} {x : OpP} (h : ElP W g o x) (hb : Below B W W') (hg : g < B) : ElP W' g o x := fun j u hu => (hb.cell (p := ⟨g, o + j, none⟩) hg).trans (h j u hu)
theorem OpsP.el {w : World} {B : Nat} {A : Option Addr} {l : List OpP} (h : OpsP w B A l) {k : Nat} (hk : k < l.length) :
    ∃ g off, A = some ⟨g, off, none⟩ ∧ g < B ∧ ElP w g (off + k * 13) (l[k]'hk) := by
  obtain ⟨b, off, rfl, hB, hc⟩ := h.at_ k hk
  exact ⟨b, off, rfl, hB, hc⟩

end Go.Proofs.Ytcefadbnmpjeiaa

/-
  PoolScripts, walked.
-/
namespace Go.Proofs.Ytcefadbnmpjeiaa
open Go.RowKit Go.Maps

theorem Fr.below_of {S : Nat → Prop} {B : Nat} {w wr w' : World} (h : Below B w wr) (hf : Fr S wr w') (hs : ∀ i, S i → B ≤ i) (hB : B ≤ w.heap.size) : Below B w w' :=
  h.trans (hf.below (Nat.le_trans hB h.size) hs)

theorem may_of_check {l : LayD} (h : l.check = 0) : l.may := by
  unfold LayD.check at h
  by_cases hm : l.may
  · exact hm
  · rw [if_neg hm] at h; cases h

theorem ofR_lt (own D : List Int) (n : Int) : (ofR own D n).1 < 2 ^ 256 := by
  unfold ofR
  split
  · exact havM_lt _ _
  · decide

/-- Both pools, new. -/
theorem PSt.new {w2 w3 : World} {b m r : Nat} {l : LayD} {ov : Value} (hl : l.check = 0) (hP : PoolAt w2 b m l []) (hR : RPool w3 w2.heap.size r l (List.replicate l.count.toNat (-1)) [] ov (.slice none 0 0)) (hf : Fr (fun _ => False) w2 w3) :
    PSt w3 w2.heap.size b m r l [] (List.replicate l.count.toNat (-1)) [] ov (.slice none 0 0) :=
  ⟨hP.fr0 hf, hR, SimP.new (may_of_check hl), hP.blk.lt, hP.map.lt⟩

set_option maxRecDepth 40000 in
set_option maxHeartbeats 4000000 in
theorem scripts8_any (w : World) (l : LayD) (A : Option Addr) (cap : Nat) (L : List OpP) (h : OpsP w w.heap.size A L) (hl : L.length ≤ maxLen) :
    Calls Try.prog 8 #[l.val, .slice A L.length cap] w fun e w' => e = .returned (.bool true) ∧ Below w.heap.size w w' := by
  have HO := Lib.hid h
  have HF := Lib.hid ((Fr.refl (fun _ => False) w).alloc (.cells #[.int .i64 l.s, .int .i64 l.p] 23))
  have HX := Lib.hid (Blk.new w 23 #[.int .i64 l.s, .int .i64 l.p])
  unfold maxLen at hl
  clear h
  by_cases h60 : 60 < L.length
  · have b1 : decide ((60 : Int) < (L.length : Int)) = true := decide_eq_true (by omega)
    obtain ⟨s, p⟩ := l
    simp only [LayD.val] at *
    go_enter Try.func8, Try.ntmps8
    go_wp2_with fail
    refine (live34_any _).mono ?_
    rintro e w2 ⟨rfl, hf2⟩
    go_wp2_with fail
    go_ret
    exact ⟨rfl, (HF.out.then hf2).below0⟩
  · have b1 : decide ((60 : Int) < (L.length : Int)) = false := decide_eq_false (by omega)
    have h36 := fun W => own36_any l W
    by_cases hc : l.check = 0
    · have h35 := fun W => new35_any l hc W
      have h37 := fun W => new37_any l hc W
      have HNEW := Lib.hid (fun w2 w3 b m r ov hP hR hf => PSt.new (w2 := w2) (w3 := w3) (b := b) (m := m) (r := r) (ov := ov) hc hP hR hf)
      clear hc
      obtain ⟨s, p⟩ := l
      simp only [LayD.val] at *
      have H36 := Lib.hid h36
      have H35 := Lib.hid h35
      have H37 := Lib.hid h37
      clear h36 h35 h37
      have y := fun i => HX.out.cell i
      go_enter Try.func8, Try.ntmps8
      go_wp2_with fail
      refine (H36.out _).mono ?_
      rintro e w1 ⟨rfl, hf1⟩
      clear y
      go_wp2_with fail
      refine (H35.out _).mono ?_
      rintro e w2 ⟨b, m, rfl, hb, hm, hP2, hf2⟩
      have hx2 := (HX.out.fr hf1 (fun h => h)).fr hf2 (fun h => h)
      have y := fun i => hx2.cell i
      have HF2 := Lib.hid ((HF.out.then hf1).then hf2)
      have HP2 := Lib.hid hP2
      have hz1 := (HF.out.then hf1).size
      clear hx2 hf1 hf2 hP2
      go_wp2_with fail
      refine (H37.out _).mono ?_
      rintro e w3 ⟨r, ov, rfl, hR3, hf3⟩
      clear y
      have HS3 := Lib.hid (HNEW.out _ _ _ _ _ _ HP2.out hR3 hf3)
      have HB3 := Lib.hid ((HF2.out.then hf3).below0)
      have hbase := HF2.out.size
      have hmw : w.heap.size ≤ m := Nat.le_trans hz1 hm
      clear hR3 hf3
      generalize w2.heap.size = base at *
      go_wp2_with fail
      go_loopw [7] (fun i wr => ∃ (k : Nat) (H : List (Int × HoldD)) (own D : List Int) (ov dv : Value), k ≤ L.length ∧ i = .int .i64 k ∧ PSt wr base b m r ⟨s, p⟩ H own D ov dv ∧ H.length ≤ k ∧ D.length ≤ k ∧ Below w.heap.size w wr) (fun i _ => L.length - (intOf i).toNat)
      case atStart => exact ⟨0, [], _, [], _, _, Nat.zero_le _, rfl, HS3.out, Nat.le_refl _, Nat.le_refl _, HB3.out⟩
      case round =>
        obtain ⟨k, H, own, D, ov, dv, hk, rfl, hS, hHl, hDl, hB⟩ := hrel
        by_cases hlt : k < L.length
        · obtain ⟨g, off, rfl, hg, hel⟩ := (HO.out.below hB).el hlt
          have how := HO.out.wf _ (List.getElem_mem hlt)
          generalize L[k] = o at *
          have h38 := does38_any wr base b m r ⟨s, p⟩ H own D ov dv hS (by omega) (by omega) o how
          have hHl' := doesP_len ⟨s, p⟩ H o
          generalize doesP ⟨s, p⟩ H o = H' at *
          have HPS := Lib.hid (fun i (hi : PS m r ov dv i) => show w.heap.size ≤ i by
            rcases hi with rfl | hi
            · exact hmw
            · exact Nat.le_trans hbase (hS.ref.ge hi).1)
          obtain ⟨do_, n, ⟨F, r', q, d⟩, M⟩ := o
          have hn := how.own
          simp only [OpP.val, OpP.cells] at *
          have c0 := hel 0 _ rfl
          have c1 := hel 1 _ rfl
          have c2 := hel 2 _ rfl
          have c3 := hel 3 _ rfl
          have c4 := hel 4 _ rfl
          have c5 := hel 5 _ rfl
          have c6 := hel 6 _ rfl
          have c7 := hel 7 _ rfl
          have c8 := hel 8 _ rfl
          have c9 := hel 9 _ rfl
          have c10 := hel 10 _ rfl
          have c11 := hel 11 _ rfl
          have c12 := hel 12 _ rfl
          simp only [Nat.add_zero] at c0
          have HEL := Lib.hid hel
          have H38 := Lib.hid h38
          have HB := Lib.hid hB
          clear hel h38 hS hB how
          go_wp2_with fail
          refine H38.out.mono ?_
          rintro e w4 ⟨rfl, hN⟩
          clear c0 c1 c2 c3 c4 c5 c6 c7 c8 c9 c10 c11 c12
          obtain ⟨own', D', ov', dv', hS4, hD4, _⟩ := hN.ex
          have HB4 := Lib.hid (Fr.below_of HB.out hN.fr HPS.out (Nat.le_refl _))
          have HE4 := Lib.hid (HEL.out.below (hN.fr.below HB.out.size HPS.out) hg)
          have h39 := fun W (hf : Fr (fun _ => False) w4 W) => free39_any W b m ⟨s, p⟩ H' (hS4.fr0 hf).pool
          have h40 := fun W (hf : Fr (fun _ => False) w4 W) => free40_any W base r ⟨s, p⟩ own' D' ov' dv' (hS4.fr0 hf).ref hS4.sim.le256
          have h41 := fun W (hf : Fr (fun _ => False) w4 W) => owners41_any W b m ⟨s, p⟩ H' (hS4.fr0 hf).pool
          have h42 := fun W (hf : Fr (fun _ => False) w4 W) => owners42_any W base r ⟨s, p⟩ own' D' ov' dv' (hS4.fr0 hf).ref hS4.sim.le256
          have h43 := fun W (hf : Fr (fun _ => False) w4 W) => of43_any W b m ⟨s, p⟩ H' (hS4.fr0 hf).pool n hn
          have h44 := fun W (hf : Fr (fun _ => False) w4 W) => of44_any W base r ⟨s, p⟩ own' D' ov' dv' (hS4.fr0 hf).ref hS4.sim.le256 (by omega) n
          have hflt := havM_lt own' (-1)
          have holt := ofR_lt own' D' n
          have hol := ownR_len own'
          have ho256 := hS4.sim.le256
          rw [← hS4.sim.free] at h39
          rw [← hS4.sim.owners] at h41
          rw [← hS4.sim.of] at h43
          generalize havM own' (-1) = FM at *
          generalize ownR own' = OW at *
          generalize ofR own' D' n = oo at *
          obtain ⟨OM, od⟩ := oo
          simp only at h43 h44 holt
          have hq1 := fun W => eq_masks hflt hflt 40 Try.underlying40 W
          have hq2 := fun W => eq_masks holt holt 40 Try.underlying40 W
          rw [decide_eq_true rfl] at hq1 hq2
          simp only [valM, Ytcefadbnmpjeiaa.cellsM] at h39 h40 h43 h44 hq1 hq2
          have H39 := Lib.hid h39
          have H40 := Lib.hid h40
          have H41 := Lib.hid h41
          have H42 := Lib.hid h42
          have H43 := Lib.hid h43
          have H44 := Lib.hid h44
          have HS4 := Lib.hid hS4
          have HQ2 := Lib.hid hq2
          clear h39 h40 h41 h42 h43 h44 hS4 hN hflt holt hq2
          go_wp2_with fail
          refine (H39.out _ (Fr.refl _ _)).mono ?_
          rintro e w5 ⟨rfl, hf5⟩
          go_wp2_with fail
          refine (H40.out _ hf5).mono ?_
          rintro e w6 ⟨rfl, hf6⟩
          have G6 := Lib.hid (hf5.then hf6)
          clear hf5 hf6
          go_wp2_with fail
          clear hq1
          refine (H41.out _ G6.out).mono ?_
          rintro e w7 ⟨v7, rfl, hr7, hf7⟩
          have G7 := Lib.hid (G6.out.then hf7)
          have hi7 := IntsV.of_row hr7
          clear hr7 hf7
          go_wp2_with fail
          refine (H42.out _ G7.out).mono ?_
          rintro e w8 ⟨v8, rfl, hr8, hf8⟩
          have G8 := Lib.hid (G7.out.then hf8)
          have hi8 := IntsV.of_row hr8
          have hi7' := hi7.fr0 hf8
          have H17 := Lib.hid (same_any w8 v7 v8 OW OW hi7' hi8 (by unfold maxLen; omega) (by unfold maxLen; omega) true (by simp [Hid]))
          clear hr8 hf8 hi7 hi8 hi7'
          go_wp2_with fail
          refine H17.out.mono ?_
          rintro e w9 ⟨rfl, hf9⟩
          have G9 := Lib.hid (G8.out.then hf9)
          have HEF := Lib.hid (fun W (hf : Fr (fun _ => False) w4 W) => show W.cell? ⟨g, off + k * 13 + 1, none⟩ = some (.int .i64 n) from (HE4.out.below (hf.below HB4.out.size (fun _ h => h.elim)) hg) 1 _ rfl)
          have c1 := HEF.out _ G9.out
          clear hf9
          go_wp2_with fail
          refine (H43.out _ G9.out).mono ?_
          rintro e wa ⟨rfl, hfa⟩
          have Ga := Lib.hid ((G9.out.then hfa).alloc (.cells #[.int .u64 (wordM OM 0 : Nat), .int .u64 (wordM OM 1 : Nat), .int .u64 (wordM OM 2 : Nat), .int .u64 (wordM OM 3 : Nat)] 33))
          have HA := Lib.hid (Blk.new wa 33 #[.int .u64 (wordM OM 0 : Nat), .int .u64 (wordM OM 1 : Nat), .int .u64 (wordM OM 2 : Nat), .int .u64 (wordM OM 3 : Nat)])
          clear c1 hfa
          have c1 := HEF.out _ (Ga.out)
          go_wp2_with fail
          refine (H44.out _ Ga.out).mono ?_
          rintro e wb ⟨rfl, hfb⟩
          have hA2 := (HA.out.fr hfb (fun h => h))
          have y := fun i => hA2.cell i
          have hq2 := HQ2.out
          have Gb := Lib.hid ((Ga.out.then hfb).alloc (.cells #[.int .u64 (wordM OM 0 : Nat), .int .u64 (wordM OM 1 : Nat), .int .u64 (wordM OM 2 : Nat), .int .u64 (wordM OM 3 : Nat)] 40))
          have bo : (od != od) = false := by simp
          have hA2l := hA2.lt
          clear c1 hA2 hfb
          go_wp2_with fail
          go_roundw
          case rel => exact ⟨k + 1, H', own', D', ov', dv', by omega, by go_num, HS4.out.fr0 Gb.out, by omega, by omega, HB4.out.trans (Gb.out.below HB4.out.size (fun _ h => h.elim))⟩
          case measure => simp [intOf]; omega
        · obtain rfl : k = L.length := by omega
          go_wp2_with fail
          refine (live34_any _).mono ?_
          rintro e w5 ⟨rfl, hf5⟩
          go_wp2_with fail
          go_ret
          exact ⟨rfl, hB.trans (hf5.below hB.size (fun _ h => h.elim))⟩
    · have h35 := fun W => new35_nil l hc W
      have h37 := fun W => new37_nil l hc W
      clear hc
      obtain ⟨s, p⟩ := l
      simp only [LayD.val] at *
      have H36 := Lib.hid h36
      have H35 := Lib.hid h35
      have H37 := Lib.hid h37
      clear h36 h35 h37
      have y := fun i => HX.out.cell i
      go_enter Try.func8, Try.ntmps8
      go_wp2_with fail
      refine (H36.out _).mono ?_
      rintro e w1 ⟨rfl, hf1⟩
      clear y
      go_wp2_with fail
      refine (H35.out _).mono ?_
      rintro e w2 ⟨rfl, hf2⟩
      have hx2 := (HX.out.fr hf1 (fun h => h)).fr hf2 (fun h => h)
      have y := fun i => hx2.cell i
      clear hx2
      go_wp2_with fail
      refine (H37.out _).mono ?_
      rintro e w3 ⟨rfl, hf3⟩
      clear y
      go_wp2_with fail
      refine (live34_any _).mono ?_
      rintro e w4 ⟨rfl, hf4⟩
      go_wp2_with fail
      go_ret
      exact ⟨rfl, ((((HF.out.then hf1).then hf2).then hf3).then hf4).below0⟩

end Go.Proofs.Ytcefadbnmpjeiaa

/-
  PoolApart, walked.
-/
namespace Go.Proofs.Ytcefadbnmpjeiaa
open Go.RowKit Go.Maps

/-- The free cores and those of some owners. -/
def unionO (own : List Int) (ns : List Int) : Nat := ns.foldl (fun U n => orM U (havM own n)) (havM own (-1))
theorem unionO_take {own ns : List Int} {k : Nat} (hk : k < ns.length) : unionO own (ns.take (k + 1)) = orM (unionO own (ns.take k)) (havM own (ns[k]'hk)) := by
  unfold unionO
  rw [List.take_succ_eq_append_getElem hk, List.foldl_append]
  rfl
theorem fold_bit (own : List Int) (i : Nat) : ∀ (ns : List Int) (a : Nat), (ns.foldl (fun U n => orM U (havM own n)) a).testBit i = (a.testBit i || ns.any fun n => (havM own n).testBit i)
  | [], a => by simp
  | n :: ns, a => by
    rw [List.foldl_cons, fold_bit own i ns, List.any_cons]
    unfold orM
    rw [Nat.testBit_or, Bool.or_assoc]
theorem unionO_bit {own : List Int} (hl : own.length ≤ 256) (ns : List Int) (i : Nat) : (unionO own ns).testBit i = true ↔ i < own.length ∧ (own.getD i 0 = -1 ∨ own.getD i 0 ∈ ns) := by
  unfold unionO
  rw [fold_bit, Bool.or_eq_true, havM_bit hl, List.any_eq_true]
  constructor
  · rintro (⟨h1, h2⟩ | ⟨n, hn, h⟩)
    · exact ⟨h1, Or.inl h2⟩
    · obtain ⟨h1, h2⟩ := (havM_bit hl n i).1 h
      exact ⟨h1, Or.inr (h2 ▸ hn)⟩
  · rintro ⟨h1, h2 | h2⟩
    · exact Or.inl ⟨h1, h2⟩
    · exact Or.inr ⟨_, h2, (havM_bit hl _ i).2 ⟨h1, rfl⟩⟩

section
variable {l : LayD} {H : List (Int × HoldD)} {own D : List Int}
theorem SimP.own_mem (h : SimP l H own D) {n : Int} (hn : n ∈ ownersS H) : mayO n = true ∧ (ofP H n).1 = havM own n ∧ havM own n ≠ 0 := by
  obtain ⟨p, hp, rfl⟩ := (ownersS_mem H n).1 hn
  have h1 := h.hav hp
  refine ⟨h.key p hp, ?_, by rw [h1]; exact h.pos p hp⟩
  unfold ofP
  rw [findH_of h.nd hp, h1]
  rfl
theorem SimP.and_zero (h : SimP l H own D) {k : Nat} (hk : k < (ownersS H).length) : andM (havM own ((ownersS H)[k]'hk)) (unionO own ((ownersS H).take k)) = 0 := by
  refine eq_zero_of fun i => ?_
  unfold andM
  rw [Nat.testBit_and]
  cases h1 : (havM own ((ownersS H)[k]'hk)).testBit i with
  | false => rfl
  | true =>
    cases h2 : (unionO own ((ownersS H).take k)).testBit i with
    | false => rfl
    | true =>
      obtain ⟨h3, h4⟩ := (havM_bit h.le256 _ i).1 h1
      obtain ⟨_, h5⟩ := (unionO_bit h.le256 _ i).1 h2
      rcases h5 with h5 | h5
      · have := mayO_nonneg (h.own_mem (List.getElem_mem hk)).1
        omega
      · rw [h4] at h5
        obtain ⟨j, hj, e⟩ := List.getElem_of_mem h5
        rw [List.getElem_take] at e
        rw [List.length_take] at hj
        have := List.pairwise_iff_getElem.1 (ownersS_rises h.nd) j k (by omega) hk (by omega)
        omega
theorem SimP.union_all (h : SimP l H own D) : unionO own (ownersS H) = l.all := by
  refine Nat.eq_of_testBit_eq fun i => ?_
  rw [Bool.eq_iff_iff, unionO_bit h.le256, all_bit, ← h.len, decide_eq_true_eq]
  constructor
  · exact fun h => h.1
  · intro hi
    refine ⟨hi, (h.own_ i hi).imp id ?_⟩
    rintro ⟨p, hp, e⟩
    exact (ownersS_mem H _).2 ⟨p, hp, e⟩
end

set_option maxRecDepth 40000 in
set_option maxHeartbeats 4000000 in
theorem apart12_any (w : World) (l : LayD) (A : Option Addr) (cap : Nat) (L : List OpP) (h : OpsP w w.heap.size A L) (hl : L.length ≤ maxLen) :
    Calls Try.prog 12 #[l.val, .slice A L.length cap] w fun e w' => e = .returned (.bool true) ∧ Below w.heap.size w w' := by
  have HO := Lib.hid h
  have HF := Lib.hid ((Fr.refl (fun _ => False) w).alloc (.cells #[.int .i64 l.s, .int .i64 l.p] 23))
  have HX := Lib.hid (Blk.new w 23 #[.int .i64 l.s, .int .i64 l.p])
  unfold maxLen at hl
  clear h
  by_cases h60 : 60 < L.length
  · have b1 : decide ((60 : Int) < (L.length : Int)) = true := decide_eq_true (by omega)
    obtain ⟨s, p⟩ := l
    simp only [LayD.val] at *
    go_enter Try.func12, Try.ntmps12
    go_wp2_with fail
    refine (live34_any _).mono ?_
    rintro e w2 ⟨rfl, hf2⟩
    go_wp2_with fail
    go_ret
    exact ⟨rfl, (HF.out.then hf2).below0⟩
  · have b1 : decide ((60 : Int) < (L.length : Int)) = false := decide_eq_false (by omega)
    have h19 := fun W => check19_any l W
    by_cases hc : l.check = 0
    · have h36 := fun W => own36_any l W
      have h35 := fun W => new35_any l hc W
      have h37 := fun W => new37_any l hc W
      have h16 := fun W => all16_any l W
      have hlall := l.all_lt
      have HNEW := Lib.hid (fun w2 w3 b m r ov hP hR hf => PSt.new (w2 := w2) (w3 := w3) (b := b) (m := m) (r := r) (ov := ov) hc hP hR hf)
      have HUA := Lib.hid (fun H own D (h : SimP l H own D) => h.union_all)
      rw [hc] at h19
      clear hc
      generalize l.all = LA at *
      obtain ⟨s, p⟩ := l
      have hq3 := fun W => eq_masks hlall hlall 33 Try.underlying33 W
      rw [decide_eq_true rfl] at hq3
      simp only [LayD.val, valM, Ytcefadbnmpjeiaa.cellsM] at *
      have HQ3 := Lib.hid hq3
      have H19 := Lib.hid h19
      have H36 := Lib.hid h36
      have H35 := Lib.hid h35
      have H37 := Lib.hid h37
      have H16 := Lib.hid h16
      clear h19 h36 h35 h37 h16 hq3
      have y := fun i => HX.out.cell i
      go_enter Try.func12, Try.ntmps12
      go_wp2_with fail
      refine (H19.out _).mono ?_
      rintro e w0 ⟨rfl, hf0⟩
      clear y
      have HF0 := Lib.hid (HF.out.then hf0)
      have hx0 := HX.out.fr hf0 (fun h => h)
      have HX0 := Lib.hid hx0
      have y := fun i => hx0.cell i
      clear hx0 hf0
      go_wp2_with fail
      refine (H36.out _).mono ?_
      rintro e w1 ⟨rfl, hf1⟩
      clear y
      go_wp2_with fail
      refine (H35.out _).mono ?_
      rintro e w2 ⟨b, m, rfl, hb, hm, hP2, hf2⟩
      have hx2 := (HX0.out.fr hf1 (fun h => h)).fr hf2 (fun h => h)
      have y := fun i => hx2.cell i
      have HF2 := Lib.hid ((HF0.out.then hf1).then hf2)
      have HP2 := Lib.hid hP2
      have HX2 := Lib.hid hx2
      have hz1 := (HF0.out.then hf1).size
      clear hx2 hf1 hf2 hP2
      go_wp2_with fail
      refine (H37.out _).mono ?_
      rintro e w3 ⟨r, ov, rfl, hR3, hf3⟩
      clear y
      have HS3 := Lib.hid (HNEW.out _ _ _ _ _ _ HP2.out hR3 hf3)
      have HB3 := Lib.hid ((HF2.out.then hf3).below0)
      have HX3 := Lib.hid (HX2.out.fr hf3 (fun h => h))
      have hbase := HF2.out.size
      have hbx := HX2.out.lt
      have hmw : w.heap.size ≤ m := Nat.le_trans hz1 hm
      have hmx : w.heap.size ≠ m := fun e => HP2.out.map.ne_blk HX2.out e.symm
      clear hR3 hf3
      generalize w2.heap.size = base at *
      go_wp2_with fail
      go_loopw [7] (fun i wr => ∃ (k : Nat) (H : List (Int × HoldD)) (own D : List Int) (ov dv : Value), k ≤ L.length ∧ i = .int .i64 k ∧ PSt wr base b m r ⟨s, p⟩ H own D ov dv ∧ H.length ≤ k ∧ D.length ≤ k ∧ Below w.heap.size w wr ∧ Blk wr w.heap.size 23 #[.int .i64 s, .int .i64 p]) (fun i _ => L.length - (intOf i).toNat)
      case atStart => exact ⟨0, [], _, [], _, _, Nat.zero_le _, rfl, HS3.out, Nat.le_refl _, Nat.le_refl _, HB3.out, HX3.out⟩
      case round =>
        obtain ⟨k, H, own, D, ov, dv, hk, rfl, hS, hHl, hDl, hB, hX⟩ := hrel
        by_cases hlt : k < L.length
        · obtain ⟨g, off, rfl, hg, hel⟩ := (HO.out.below hB).el hlt
          have how := HO.out.wf _ (List.getElem_mem hlt)
          generalize L[k] = o at *
          have h38 := does38_any wr base b m r ⟨s, p⟩ H own D ov dv hS (by omega) (by omega) o how
          have hHl' := doesP_len ⟨s, p⟩ H o
          generalize doesP ⟨s, p⟩ H o = H' at *
          have HPS := Lib.hid (fun i (hi : PS m r ov dv i) => show w.heap.size ≤ i by
            rcases hi with rfl | hi
            · exact hmw
            · exact Nat.le_trans hbase (hS.ref.ge hi).1)
          have HPX := Lib.hid (show ¬ PS m r ov dv w.heap.size from fun hi => by
            rcases hi with e | hi
            · exact hmx e
            · have := (hS.ref.ge hi).1; omega)
          obtain ⟨do_, n, ⟨F, r', q, d⟩, M⟩ := o
          simp only [OpP.val, OpP.cells] at *
          have c0 := hel 0 _ rfl
          have c1 := hel 1 _ rfl
          have c2 := hel 2 _ rfl
          have c3 := hel 3 _ rfl
          have c4 := hel 4 _ rfl
          have c5 := hel 5 _ rfl
          have c6 := hel 6 _ rfl
          have c7 := hel 7 _ rfl
          have c8 := hel 8 _ rfl
          have c9 := hel 9 _ rfl
          have c10 := hel 10 _ rfl
          have c11 := hel 11 _ rfl
          have c12 := hel 12 _ rfl
          simp only [Nat.add_zero] at c0
          have H38 := Lib.hid h38
          have HB := Lib.hid hB
          have HX := Lib.hid hX
          clear hel h38 hS hB how hX
          go_wp2_with fail
          refine H38.out.mono ?_
          rintro e w4 ⟨rfl, hN⟩
          clear c0 c1 c2 c3 c4 c5 c6 c7 c8 c9 c10 c11 c12
          obtain ⟨own', D', ov', dv', hS4, hD4, _⟩ := hN.ex
          have HB4 := Lib.hid (Fr.below_of HB.out hN.fr HPS.out (Nat.le_refl _))
          have HX4 := Lib.hid (HX.out.fr hN.fr HPX.out)
          have h39 := fun W (hf : Fr (fun _ => False) w4 W) => free39_any W b m ⟨s, p⟩ H' (hS4.fr0 hf).pool
          have h41 := fun W (hf : Fr (fun _ => False) w4 W) => owners41_any W b m ⟨s, p⟩ H' (hS4.fr0 hf).pool
          have h43 := fun W n (hn : n ∈ ownersS H') (hf : Fr (fun _ => False) w4 W) => of43_any W b m ⟨s, p⟩ H' (hS4.fr0 hf).pool n (mayO_wf (hS4.sim.own_mem hn).1)
          have hol : (ownersS H').length ≤ 100 := by rw [ownersS_length]; omega
          have hlast := hS4.sim.union_all
          have HLAST := Lib.hid (HUA.out _ _ _ hS4.sim)
          have HZR := Lib.hid (fun k (hk : k < (ownersS H').length) => hS4.sim.and_zero hk)
          have HMEM := Lib.hid (fun n (hn : n ∈ ownersS H') => hS4.sim.own_mem hn)
          rw [← hS4.sim.free] at h39
          have hu0 : havM own' (-1) = unionO own' ((ownersS H').take 0) := rfl
          rw [hu0] at h39
          generalize ownersS H' = NS at *
          simp only [valM, Ytcefadbnmpjeiaa.cellsM] at h39 h43
          have H39 := Lib.hid h39
          have H41 := Lib.hid h41
          have H43 := Lib.hid h43
          have HS4 := Lib.hid hS4
          clear h39 h41 h43 hS4 hN hlast hu0
          go_wp2_with fail
          refine (H39.out _ (Fr.refl _ _)).mono ?_
          rintro e w5 ⟨rfl, hf5⟩
          generalize hU0 : unionO own' (NS.take 0) = U0 at *
          have G5 := Lib.hid (hf5.alloc (.cells #[.int .u64 (wordM U0 0 : Nat), .int .u64 (wordM U0 1 : Nat), .int .u64 (wordM U0 2 : Nat), .int .u64 (wordM U0 3 : Nat)] 33))
          have HA5 := Lib.hid (Blk.new w5 33 #[.int .u64 (wordM U0 0 : Nat), .int .u64 (wordM U0 1 : Nat), .int .u64 (wordM U0 2 : Nat), .int .u64 (wordM U0 3 : Nat)])
          have HU0 := Lib.hid hU0
          have hz5 := hf5.size
          clear hf5 hU0
          go_wp2_with fail
          refine (H41.out _ G5.out).mono ?_
          rintro e w6 ⟨v6, rfl, hr6, hf6⟩
          have G6 := Lib.hid (G5.out.then hf6)
          have HA6 := Lib.hid (HA5.out.fr hf6 (fun h => h))
          have hi6 := IntsV.of_row hr6
          have HG6 := Lib.hid (fun g (hg : v6.ownBlock = some g) => show g ≠ w5.heap.size by have := (hr6.lt g hg).1; simp only [World.size_alloc] at this; omega)
          obtain ⟨A6, cap6, rfl⟩ := row_shape hr6
          have HI6 := Lib.hid hi6
          clear hr6 hf6 hi6
          go_wp2_with fail
          obtain ⟨wA, rfl⟩ : ∃ wA : World, wA = w6 := ⟨_, rfl⟩
          go_loopw [10] (fun i wq => ∃ j : Nat, j ≤ NS.length ∧ i = .int .i64 j ∧ Blk wq w5.heap.size 33 #[.int .u64 (wordM (unionO own' (NS.take j)) 0 : Nat), .int .u64 (wordM (unionO own' (NS.take j)) 1 : Nat), .int .u64 (wordM (unionO own' (NS.take j)) 2 : Nat), .int .u64 (wordM (unionO own' (NS.take j)) 3 : Nat)] ∧ Fr (fun _ => False) w4 wq ∧ Hid (IntsV wq (.slice A6 NS.length cap6) NS)) (fun i _ => NS.length - (intOf i).toNat)
          case atStart => exact ⟨0, Nat.zero_le _, rfl, by rw [HU0.out]; exact HA6.out, G6.out, HI6⟩
          case round =>
            obtain ⟨j, hj, rfl, hbu, hfq, hiq⟩ := hrel
            by_cases hjt : j < NS.length
            · obtain ⟨B, cp, hv, hcj⟩ := hiq.out
              cases hv
              obtain ⟨g2, off2, rfl, d1⟩ := hcj j hjt
              have hmem := HMEM.out _ (List.getElem_mem hjt)
              have hzr := HZR.out j hjt
              have hst := unionO_take (own := own') hjt
              have h43j := fun W hf => H43.out W _ (List.getElem_mem hjt) hf
              rw [hmem.2.1] at h43j
              have hn0 := hmem.2.2
              have hMl := havM_lt own' NS[j]
              generalize havM own' NS[j] = MJ at *
              generalize (ofP H' NS[j]).2 = dj at *
              generalize NS[j] = nj at *
              generalize unionO own' (NS.take j) = U at *
              have h32 := fun W => and_any MJ U W
              rw [hzr] at h32
              have h30 := fun W => or_any U MJ W
              rw [← hst] at h30
              obtain ⟨U', hU'⟩ : ∃ U', unionO own' (NS.take (j + 1)) = U' := ⟨_, rfl⟩
              rw [hU'] at h30
              have HU' := Lib.hid hU'
              have hqa := fun W => eq_masks hMl (show (0 : Nat) < 2 ^ 256 by decide) 33 Try.underlying33 W
              have hqb := fun W => eq_masks (show (0 : Nat) < 2 ^ 256 by decide) (show (0 : Nat) < 2 ^ 256 by decide) 33 Try.underlying33 W
              rw [decide_eq_false hn0] at hqa
              rw [decide_eq_true rfl] at hqb
              simp only [valM, zero_cells] at hqa hqb h32
              simp only [valM, Ytcefadbnmpjeiaa.cellsM] at hqa h32 h30
              have H32 := Lib.hid h32
              have H30 := Lib.hid h30
              have HQA := Lib.hid hqa
              have HQB := Lib.hid hqb
              have H43j := Lib.hid h43j
              have HBU := Lib.hid hbu
              have HFQ := Lib.hid hfq
              clear hmem hzr hst h43j hn0 hMl h32 h30 hqa hqb hcj hU'
              go_wp2_with fail
              refine (H43j.out _ HFQ.out).mono ?_
              rintro e w7 ⟨rfl, hf7⟩
              clear d1 hbu hfq
              have hb7 := (HBU.out.fr hf7 (fun h => h)).alloc (.cells #[.int .u64 (wordM MJ 0 : Nat), .int .u64 (wordM MJ 1 : Nat), .int .u64 (wordM MJ 2 : Nat), .int .u64 (wordM MJ 3 : Nat)] 33)
              have hm7 := Blk.new w7 33 #[.int .u64 (wordM MJ 0 : Nat), .int .u64 (wordM MJ 1 : Nat), .int .u64 (wordM MJ 2 : Nat), .int .u64 (wordM MJ 3 : Nat)]
              have y7 := fun i => hb7.cell i
              have HB7 := Lib.hid hb7
              have HM7 := Lib.hid hm7
              have HF7 := Lib.hid ((HFQ.out.then hf7).alloc (.cells #[.int .u64 (wordM MJ 0 : Nat), .int .u64 (wordM MJ 1 : Nat), .int .u64 (wordM MJ 2 : Nat), .int .u64 (wordM MJ 3 : Nat)] 33))
              have HI7 := Lib.hid ((hiq.out.fr0 hf7).fr0 ((Fr.refl _ w7).alloc (.cells #[.int .u64 (wordM MJ 0 : Nat), .int .u64 (wordM MJ 1 : Nat), .int .u64 (wordM MJ 2 : Nat), .int .u64 (wordM MJ 3 : Nat)] 33)))
              have hqa := HQA.out
              have hlt7 := (HBU.out.fr hf7 (fun h => h)).lt
              clear hb7 hm7 hf7
              go_wp2_with fail
              clear hqa y7
              refine (H32.out _).mono ?_
              rintro e w8 ⟨rfl, hf8⟩
              have hqb := HQB.out
              have hb8 := HB7.out.fr hf8 (fun h => h)
              have hm8 := HM7.out.fr hf8 (fun h => h)
              have y8 := fun i => hb8.cell i
              have z8 := fun i => hm8.cell i
              have HB8 := Lib.hid hb8
              have HF8 := Lib.hid (HF7.out.then hf8)
              have HI8 := Lib.hid (HI7.out.fr0 hf8)
              clear hb8 hm8 hf8
              go_wp2_with fail
              clear hqb y8 z8
              refine (H30.out _).mono ?_
              rintro e w9 ⟨rfl, hf9⟩
              have hb9 := HB8.out.fr hf9 (fun h => h)
              obtain ⟨f0, f1, f2, f3⟩ := hb9.frozenM
              have y9 := fun i => hb9.cell i
              have HB9 := Lib.hid hb9
              have HF9 := Lib.hid (HF8.out.then hf9)
              have HI9 := Lib.hid (HI8.out.fr0 hf9)
              clear hb9 hf9
              go_wp2_with fail
              go_roundw
              case rel =>
                refine ⟨j + 1, by omega, by go_num, by rw [HU'.out]; exact Blk.setM rfl HB9.out U', HF9.out.setM (Or.inr hz5) _ _ _ _, Lib.hid (HI9.out.fr ((Fr.refl (fun i => i = w5.heap.size) w9).setM (Or.inl rfl) _ _ _ _) (fun g hg => HG6.out g hg))⟩
              case measure => simp [intOf]; omega
            · obtain rfl : j = NS.length := by omega
              rw [List.take_length, HLAST.out] at hbu
              have hxq := HX4.out.fr hfq (fun h => h)
              have l0 := Later.cell (hbu.cell 0)
              have l1 := Later.cell (hbu.cell 1)
              have l2 := Later.cell (hbu.cell 2)
              have l3 := Later.cell (hbu.cell 3)
              have l4 := Later.cell (hxq.cell 0)
              have l5 := Later.cell (hxq.cell 1)
              have HXQ := Lib.hid hxq
              have HFQ := Lib.hid hfq
              clear hbu hxq hfq
              go_wp2_with fail
              have hq3 := HQ3.out
              refine wp_region_later wr (by kernel_rfl) (by kernel_rfl) (Fr.refl _ _) ?_
              repeat (go_big_quiet_step (first
                | (go_at_call 36; exact later_call (H36.out _))
                | (go_at_call 16; exact later_call (H16.out _))))
              refine wpQuiet_nil ?_
              rintro _ ⟨dd, rfl⟩
              clear l0 l1 l2 l3 l4 l5 hq3
              have Gd := HFQ.out.then dd.fr
              go_wp2_with fail
              go_roundw
              case rel => exact ⟨k + 1, H', own', D', ov', dv', by omega, by go_num, HS4.out.fr0 Gd, by omega, by omega, HB4.out.trans (Gd.below HB4.out.size (fun _ h => h.elim)), HXQ.out.fr dd.fr (fun h => h)⟩
              case measure => simp [intOf]; omega
        · obtain rfl : k = L.length := by omega
          go_wp2_with fail
          refine (live34_any _).mono ?_
          rintro e w5 ⟨rfl, hf5⟩
          go_wp2_with fail
          go_ret
          exact ⟨rfl, hB.trans (hf5.below hB.size (fun _ h => h.elim))⟩
    · have b2 : (l.check != 0) = true := by simpa using hc
      generalize l.check = ck at *
      clear hc
      obtain ⟨s, p⟩ := l
      simp only [LayD.val] at *
      have H19 := Lib.hid h19
      clear h19
      have y := fun i => HX.out.cell i
      go_enter Try.func12, Try.ntmps12
      go_wp2_with fail
      refine (H19.out _).mono ?_
      rintro e w1 ⟨rfl, hf1⟩
      clear y
      go_wp2_with fail
      refine (live34_any _).mono ?_
      rintro e w4 ⟨rfl, hf4⟩
      go_wp2_with fail
      go_ret
      exact ⟨rfl, ((HF.out.then hf1).then hf4).below0⟩

end Go.Proofs.Ytcefadbnmpjeiaa
