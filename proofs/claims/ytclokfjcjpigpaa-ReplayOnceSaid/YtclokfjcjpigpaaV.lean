/-
  The reference's cache: Use.
-/
import Derived.Test.YtclokfjcjpigpaaT
import Derived.Deep.RegionLaw
namespace Go.Proofs.Ytclokfjcjpigpaa
open Go.RowKit Go.Maps

def flatC (L : List CredD) : List Value := L.flatMap fun x => x.cells.toList
theorem flatC_snoc (L : List CredD) (x : CredD) : flatC (L ++ [x]) = flatC L ++ x.cells.toList := by simp [flatC]

/-- What the reference's Use answers, and what it leaves. -/
def useB (most : Int) (L : List CredD) (K : List (Int × Int)) (x : CredD) (now : Int) : Int × List CredD :=
  if x.ok = false then (1, L)
  else if x.until_ ≤ now then (8, L)
  else if revokedB K x.job x.epoch = true then (11, L)
  else if keptB (L.filter fun c => decide (now < c.until_)) x now = true then (10, L.filter fun c => decide (now < c.until_))
  else if ((L.filter fun c => decide (now < c.until_)).length : Int) = most then (6, L.filter fun c => decide (now < c.until_))
  else (0, (L.filter fun c => decide (now < c.until_)) ++ [x])

structure REnv (w W : World) (x : CredD) (base r : Nat) (most : Int) (L : List CredD) (K : List (Int × Int)) (lv bv : Value) : Prop where
  cred : Blk W w.heap.size 31 x.cells
  ref : RefAt W base r most L K lv bv
  hr : r < w.heap.size
  fr : Fr (fun k => k = r) w W

section
variable {w W W' : World} {x : CredD} {base r : Nat} {most : Int} {L : List CredD} {K : List (Int × Int)} {lv bv : Value}
theorem REnv.start (h : RefAt w base r most L K lv bv) (x : CredD) : REnv w (w.alloc (.cells x.cells 31)) x base r most L K lv bv :=
  ⟨Blk.new w 31 x.cells, h.fr ((Fr.refl (fun _ => False) w).alloc _) (fun _ h => h.elim), h.blk.lt, (Fr.refl _ w).alloc _⟩
theorem REnv.next (h : REnv w W x base r most L K lv bv) (hf : Fr (fun _ => False) W W') : REnv w W' x base r most L K lv bv :=
  ⟨h.cred.fr hf (fun h => h), h.ref.fr hf (fun _ h => h.elim), h.hr, h.fr.trans hf (fun _ _ h => h.elim)⟩
end

set_option maxHeartbeats 1000000 in
theorem use21_bad (w : World) (B base r : Nat) (most : Int) (L : List CredD) (K : List (Int × Int)) (lv bv : Value) (h : RefAt w base r most L K lv bv) (x : CredD) (now : Int)
    (hA : Nums w B x.A x.ns) (hB : B ≤ w.heap.size) (hm : x.ns.length ≤ maxLen) (hok : x.ok = false) :
    Calls Try.prog 21 #[.pointer (some ⟨r, 0, none⟩), x.val, .int .i64 now] w fun e w' => e = .returned (.int .i64 1) ∧ (∃ lv', RefAt w' base r most L K lv' bv) ∧ Fr (fun k => k = r) w w' := by
  have E := REnv.start h x
  have hck := (check20_any x B (w.alloc (.cells x.cells 31)) (by simp; omega) (hA.below ((Below.refl B w).alloc hB _)) hm)
  have hc0 : chk x = 1 := by simp [chk, hok]
  rw [hc0] at hck
  clear h hA hc0 hok
  obtain ⟨job, epoch, step, frm, unt, A, c, ns, cores⟩ := x
  simp only [CredD.val, CredD.cells] at *
  have HE := Lib.hid E
  have HC := Lib.hid hck
  clear E hck
  go_enter Try.func21, Try.ntmps21
  go_wp2_with (go_at_call 20; refine HC.out.mono ?_; rintro e w1 ⟨rfl, hb1⟩; have E1 := HE.out.next (Fr.of_below hb1))
  go_ret
  exact ⟨rfl, ⟨_, E1.ref⟩, E1.fr⟩

set_option maxHeartbeats 1000000 in
theorem use21_time (w : World) (B base r : Nat) (most : Int) (L : List CredD) (K : List (Int × Int)) (lv bv : Value) (h : RefAt w base r most L K lv bv) (x : CredD) (now : Int)
    (hA : Nums w B x.A x.ns) (hB : B ≤ w.heap.size) (hm : x.ns.length ≤ maxLen) (hok : x.ok = true) (ht : x.until_ ≤ now) :
    Calls Try.prog 21 #[.pointer (some ⟨r, 0, none⟩), x.val, .int .i64 now] w fun e w' => e = .returned (.int .i64 8) ∧ (∃ lv', RefAt w' base r most L K lv' bv) ∧ Fr (fun k => k = r) w w' := by
  have E := REnv.start h x
  have hck := (check20_any x B (w.alloc (.cells x.cells 31)) (by simp; omega) (hA.below ((Below.refl B w).alloc hB _)) hm)
  have hc0 : chk x = 0 := by simp [chk, hok]
  rw [hc0] at hck
  clear h hA hc0 hok
  obtain ⟨job, epoch, step, frm, unt, A, c, ns, cores⟩ := x
  simp only [CredD.val, CredD.cells] at *
  have HE := Lib.hid E
  have HC := Lib.hid hck
  clear E hck
  go_enter Try.func21, Try.ntmps21
  go_wp2_with (go_at_call 20; refine HC.out.mono ?_; rintro e w1 ⟨rfl, hb1⟩; have E1 := HE.out.next (Fr.of_below hb1); have e1 := fun i => E1.cred.cell i; simp only [CredD.cells] at e1)
  go_ret
  exact ⟨rfl, ⟨_, E1.ref⟩, E1.fr⟩

set_option maxHeartbeats 1000000 in
theorem use21_revoked (w : World) (B base r : Nat) (most : Int) (L : List CredD) (K : List (Int × Int)) (lv bv : Value) (h : RefAt w base r most L K lv bv) (hK : K.length ≤ 64) (x : CredD) (now : Int)
    (hA : Nums w B x.A x.ns) (hB : B ≤ w.heap.size) (hm : x.ns.length ≤ maxLen) (hok : x.ok = true) (ht : now < x.until_) (hrv : revokedB K x.job x.epoch = true) :
    Calls Try.prog 21 #[.pointer (some ⟨r, 0, none⟩), x.val, .int .i64 now] w fun e w' => e = .returned (.int .i64 11) ∧ (∃ lv', RefAt w' base r most L K lv' bv) ∧ Fr (fun k => k = r) w w' := by
  have E := REnv.start h x
  have hck := (check20_any x B (w.alloc (.cells x.cells 31)) (by simp; omega) (hA.below ((Below.refl B w).alloc hB _)) hm)
  have hc0 : chk x = 0 := by simp [chk, hok]
  rw [hc0] at hck
  have hr := fun W hW => revoked17_any W base r most L K lv bv hW (by omega) x true hrv.symm
  clear h hA hc0 hok hrv
  obtain ⟨job, epoch, step, frm, unt, A, c, ns, cores⟩ := x
  simp only [CredD.val, CredD.cells] at *
  have HE := Lib.hid E
  have HC := Lib.hid hck
  have HR := Lib.hid hr
  clear E hck hr
  go_enter Try.func21, Try.ntmps21
  go_wp2_with (first
    | (go_at_call 20; refine HC.out.mono ?_; rintro e w1 ⟨rfl, hb1⟩; have E1 := HE.out.next (Fr.of_below hb1); have e1 := fun i => E1.cred.cell i; simp only [CredD.cells] at e1)
    | (go_at_call 17; refine (HR.out _ E1.ref).mono ?_; rintro e w2 ⟨rfl, hf2⟩; have E2 := E1.next hf2))
  go_ret
  exact ⟨rfl, ⟨_, E2.ref⟩, E2.fr⟩

structure UseRel (w2 wr : World) (L : List CredD) (now : Int) (k : Nat) (nv : Value) : Prop where
  hk : k ≤ L.length
  row : wr.ownsRow w2.heap.size 31 7 nv ((L.take k).filter fun c => decide (now < c.until_)).length (flatC ((L.take k).filter fun c => decide (now < c.until_)))
  fr : Fr (fun _ => False) w2 wr

theorem UseRel.skip {w2 wr : World} {L : List CredD} {now : Int} {k : Nat} {nv : Value} (h : UseRel w2 wr L now k nv) (hk : k < L.length) (hn : ¬ now < (L[k]'hk).until_) : UseRel w2 wr L now (k + 1) nv where
  hk := hk
  row := by
    rw [List.take_succ_eq_append_getElem hk, List.filter_append]
    rw [show ([L[k]'hk].filter fun c => decide (now < c.until_)) = [] by simp [hn], List.append_nil]
    exact h.row
  fr := h.fr

theorem UseRel.add {w2 wr wx w1 : World} {L : List CredD} {now : Int} {k : Nat} {nv v' : Value} {y : CredD} {n : Nat} {row : Option Nat} {xs : List Value} (h : UseRel w2 wr L now k nv) (hk : k < L.length) (hy : L[k]'hk = y) (hn : now < y.until_) (hf : Fr (fun _ => False) wr wx)
    (hlen : n = ((L.take k).filter fun c => decide (now < c.until_)).length) (hxs : xs = flatC ((L.take k).filter fun c => decide (now < c.until_)))
    (hrow : w1.ownsRow w2.heap.size 31 7 v' (n + 1) (xs ++ y.cells.toList)) (hg : wx.grownBy w1 row) (hr : row = nv.ownBlock) : UseRel w2 w1 L now (k + 1) v' where
  hk := hk
  row := by
    rw [List.take_succ_eq_append_getElem hk, List.filter_append]
    rw [show ([L[k]'hk].filter fun c => decide (now < c.until_)) = [y] by rw [hy]; simp [hn], flatC_snoc, List.length_append]
    subst hlen hxs
    exact hrow
  fr := (h.fr.then hf).grown hg fun q e => by
    rw [hr] at e
    exact Or.inr (h.row.lt q e).1

theorem news7 (W : World) (y : CredD) : ∀ j u, y.cells.toList[j]? = some u → (W.alloc (.cells y.cells 31)).cell? ((⟨W.heap.size, 0, none⟩ : Addr).add j) = some u :=
  World.news_of_block (heap_alloc_new W (.cells y.cells 31))

theorem one7 (y : CredD) : ∀ u ∈ y.cells.toList, u.oneCell' = true := by
  intro u hu
  simp [CredD.cells] at hu
  rcases hu with rfl | rfl | rfl | rfl | rfl | rfl | rfl <;> rfl

theorem filt_le (L : List CredD) (k : Nat) (now : Int) (hL : L.length ≤ 64) : ((L.take k).filter fun c => decide (now < c.until_)).length ≤ 64 := by
  have h1 := List.length_filter_le (fun c : CredD => decide (now < c.until_)) (L.take k)
  have h2 := List.length_take_le k L
  have h3 : (L.take k).length ≤ L.length := List.length_take_le' k L
  omega

theorem RefAt.setList {w : World} {base r B : Nat} {most : Int} {L L' : List CredD} {K : List (Int × Int)} {lv bv nv : Value} (h : RefAt w base r most L K lv bv) (hrow : w.ownsRow B 31 7 nv L'.length (flatC L')) (hB : base ≤ B) :
    RefAt (w.setCell ⟨r, 1, none⟩ nv) base r most L' K nv bv where
  blk := h.blk.set_ 1 nv
  list := ownsRow_base (ownsRow_set hrow h.blk (by decide) _ _) hB
  back := ownsRow_set h.back h.blk (by decide) _ _
  hr := h.hr

theorem RefAt.ne_list {w : World} {base r : Nat} {most : Int} {L : List CredD} {K : List (Int × Int)} {lv bv : Value} (h : RefAt w base r most L K lv bv) : some r ≠ lv.ownBlock := by
  intro e
  obtain ⟨cur, hc⟩ := ownsRow_block h.list e.symm
  have hb := h.blk
  unfold Blk at hb
  rw [hb] at hc
  cases hc

/-- Behind 'c.L = append(c.L, x)': the list's row may have grown in place. -/
theorem REnv.push {w W w6 : World} {x : CredD} {base r : Nat} {most : Int} {L : List CredD} {K : List (Int × Int)} {lv bv v' : Value} {o : Obj} (h : REnv w W x base r most L K lv bv) (hw : w.heap.size ≤ W.heap.size)
    (hlv : ∀ q, lv.ownBlock = some q → w.heap.size ≤ q) (hrow : w6.ownsRow base 31 7 v' (L.length + 1) ((L.flatMap fun x => x.cells.toList) ++ x.cells.toList)) (hg : (W.alloc o).drew.grownBy w6 lv.ownBlock) :
    RefAt (w6.setCell ⟨r, 1, none⟩ v') base r most (L ++ [x]) K v' bv ∧ Fr (fun k => k = r) w (w6.setCell ⟨r, 1, none⟩ v') := by
  have hb : Blk w6 r 39 #[.int .i64 most, lv, bv] := ((h.ref.blk.alloc o).grown (w := (W.alloc o).drew) hg h.ref.ne_list)
  have hf6 : Fr (fun k => k = r) w w6 := (Fr.drew (h.fr.alloc o)).grown hg fun q e => Or.inr (hlv q e)
  refine ⟨⟨hb.set_ 1 v', ?_, ?_, h.ref.hr⟩, Fr.setCell (S := fun k => k = r) (p := ⟨r, 1, none⟩) hf6 (Or.inl rfl) _⟩
  · rw [List.length_append, List.flatMap_append]
    simp only [List.flatMap_cons, List.flatMap_nil, List.append_nil]
    exact ownsRow_set hrow hb (by decide) _ _
  · refine ownsRow_set ?_ hb (by decide) _ _
    refine World.ownsRow.kept (w := (W.alloc o).drew) (h.ref.back.alloc o) hg ?_
    cases hbo : bv.ownBlock with
    | none => exact Or.inl rfl
    | some q =>
      refine Or.inr fun e => ?_
      obtain ⟨c1, h1⟩ := ownsRow_block h.ref.back hbo
      obtain ⟨c2, h2⟩ := ownsRow_block h.ref.list e.symm
      rw [h1] at h2
      cases h2

theorem REnv.set {w W : World} {x : CredD} {base r B : Nat} {most : Int} {L L' : List CredD} {K : List (Int × Int)} {lv bv nv : Value} (h : REnv w W x base r most L K lv bv) (hrow : W.ownsRow B 31 7 nv L'.length (flatC L')) (hB : base ≤ B) :
    REnv w (W.setCell ⟨r, 1, none⟩ nv) x base r most L' K nv bv where
  cred := h.cred.far (by have := h.hr; simp; omega) _
  ref := h.ref.setList hrow hB
  hr := h.hr
  fr := Fr.setCell (S := fun k => k = r) (p := ⟨r, 1, none⟩) h.fr (Or.inl rfl) _

theorem row_shape {W : World} {base : Nat} {e : TypeId} {size : Nat} {v : Value} {k : Nat} {xs : List Value} (h : W.ownsRow base e size v k xs) : ∃ A cap, v = .slice A k cap := by
  rcases h.2 with ⟨rfl, h0⟩ | ⟨g, cap, _, rfl, _⟩
  · exact ⟨none, 0, by rw [h0]⟩
  · exact ⟨_, cap, rfl⟩

set_option maxHeartbeats 2000000 in
theorem use21_tail (w : World) (B base r : Nat) (most : Int) (L : List CredD) (K : List (Int × Int)) (lv bv : Value) (h : RefAt w base r most L K lv bv) (hL : L.length ≤ 64) (hK : K.length ≤ 64) (hbase : base ≤ w.heap.size) (x : CredD) (now : Int)
    (hA : Nums w B x.A x.ns) (hB : B ≤ w.heap.size) (hm : x.ns.length ≤ maxLen) (hok : x.ok = true) (ht : now < x.until_) (hrv : revokedB K x.job x.epoch = false) (res : Int × List CredD) (hres : Hid (res = useB most L K x now)) :
    Calls Try.prog 21 #[.pointer (some ⟨r, 0, none⟩), x.val, .int .i64 now] w fun e w' => e = .returned (.int .i64 res.1) ∧ (∃ lv', RefAt w' base r most res.2 K lv' bv) ∧ Fr (fun k => k = r) w w' := by
  obtain ⟨i0, hi, hz0, hz1, hz2⟩ := info_parts info31
  have E := REnv.start h x
  have hck := (check20_any x B (w.alloc (.cells x.cells 31)) (by simp; omega) (hA.below ((Below.refl B w).alloc hB _)) hm)
  have hc0 : chk x = 0 := by simp [chk, hok]
  rw [hc0] at hck
  have hr := fun W hW => revoked17_any W base r most L K lv bv hW (by omega) x false hrv.symm
  have Hok := Lib.hid hok
  have Hrv := Lib.hid hrv
  clear h hA hc0 hok hrv
  obtain ⟨job, epoch, step, frm, unt, A, c, ns, cores⟩ := x
  simp only [CredD.val, CredD.cells] at *
  have HE := Lib.hid E
  have HC := Lib.hid hck
  have HR := Lib.hid hr
  clear E hck hr
  go_enter Try.func21, Try.ntmps21
  go_wp2_with (first
    | (go_at_call 20; refine HC.out.mono ?_; rintro e w1 ⟨rfl, hb1⟩; have E1 := HE.out.next (Fr.of_below hb1); have e1 := fun i => E1.cred.cell i; simp only [CredD.cells] at e1)
    | (go_at_call 17; refine (HR.out _ E1.ref).mono ?_; rintro e w2 ⟨rfl, hf2⟩; have E2 := E1.next hf2; clear e1))
  have HE2 := Lib.hid E2
  have hsz := E2.fr.size
  have hrlt := E2.hr
  clear E2 E1 hb1 hf2 HE HC HR
  go_loopw [7, 8] (fun nv i wr => ∃ k : Nat, i = .int .i64 k ∧ UseRel w2 wr L now k nv) (fun _ i _ => L.length - (intOf i).toNat)
  case atStart => exact ⟨0, rfl, ⟨Nat.zero_le _, World.ownsRow_nil _ _ _ _, Fr.refl _ _⟩⟩
  case round =>
    obtain ⟨k, rfl, hrl⟩ := hrel
    have HRL := Lib.hid hrl
    obtain ⟨hk, hrow, hfr⟩ := hrl
    have hE := HE2.out.next hfr
    have e1 := hE.ref.blk.cell 1
    have hsz2 := hfr.size
    have hfl := filt_le L k now hL
    by_cases hlt : k < L.length
    · obtain ⟨g, cap, hlv, hcell⟩ := hE.ref.elem hlt
      subst hlv
      have HSK := Lib.hid (HRL.out.skip hlt)
      have HAD := Lib.hid (fun (wx w1 : World) (v' : Value) (y : CredD) (n : Nat) (row : Option Nat) (xs : List Value) => HRL.out.add (wx := wx) (w1 := w1) (v' := v') (y := y) (n := n) (row := row) (xs := xs) hlt)
      generalize hyL : L[k] = y at *
      have c0 := hcell 0 _ rfl
      have c1 := hcell 1 _ rfl
      have c2 := hcell 2 _ rfl
      have c3 := hcell 3 _ rfl
      have c4 := hcell 4 _ rfl
      have c5 := hcell 5 _ rfl
      have c6 := hcell 6 _ rfl
      rw [Nat.add_zero] at c0
      clear hcell hyL
      have hn7 := news7 wr y
      have ho7 := one7 y
      obtain ⟨job', epoch', step', frm', unt', A', c', ns', cores'⟩ := y
      simp only [CredD.cells] at *
      have HAD2 := Lib.hid (fun (wx w1 : World) (v' : Value) (n : Nat) (row : Option Nat) (xs : List Value) (hc : now < unt') => HAD.out wx w1 v' ⟨job', epoch', step', frm', unt', A', c', ns', cores'⟩ n row xs rfl hc)
      clear HAD
      generalize hnn : ((L.take k).filter fun c => decide (now < c.until_)).length = n at *
      generalize hxx : flatC ((L.take k).filter fun c => decide (now < c.until_)) = xs at *
      have s1 : n + 1 ≤ maxLen := by unfold maxLen; omega
      have s2 : (n + 1) * 72 ≤ 140737488355328 := by omega
      have s3 : ∀ o, w2.heap.size ≤ (wr.alloc o).heap.size := fun o => by rw [World.size_alloc]; omega
      by_cases hc : now < unt'
      · go_wp2_with (at_builtin; refine wpList_append_own _ rfl _ _ 36 rfl w2.heap.size 31 i0 _ 7 72 Try.underlying36 hi hz0 hz1 hz2 rfl (by decide) _ _ _ rfl (hrow.alloc _) ⟨wr.heap.size, 0, none⟩ 1 1 _ rfl rfl hn7 ho7 s1 s2 (s3 _) ?_; intro v' w1 hown1 hgrow1 hne1)
        go_roundw
        case rel => exact ⟨k + 1, by go_num, HAD2.out _ _ _ _ _ _ hc ((Fr.refl _ _).alloc _) rfl rfl hown1 hgrow1 rfl⟩
        case measure => simp [intOf]; omega
      · go_wp2
        go_roundw
        case rel => exact ⟨k + 1, by go_num, HSK.out hc⟩
        case measure => simp [intOf]; omega
    · obtain rfl : k = L.length := by omega
      obtain ⟨A', cap', rfl⟩ := hE.ref.shape
      rw [List.take_length] at hrow hfl
      have hus : res = if keptB (L.filter fun c => decide (now < c.until_)) ⟨job, epoch, step, frm, unt, A, c, ns, cores⟩ now = true then (10, L.filter fun c => decide (now < c.until_))
          else if ((L.filter fun c => decide (now < c.until_)).length : Int) = most then (6, L.filter fun c => decide (now < c.until_))
          else (0, (L.filter fun c => decide (now < c.until_)) ++ [⟨job, epoch, step, frm, unt, A, c, ns, cores⟩]) := by
        rw [hres.out]
        unfold useB
        rw [if_neg (by rw [Hok.out]; simp), if_neg (by simp only; omega), if_neg (by rw [Hrv.out]; simp)]
      clear hres
      generalize L.filter (fun c => decide (now < c.until_)) = L1 at *
      have HEN := Lib.hid (hE.set (L' := L1) hrow (by omega))
      obtain ⟨nA, ncap, rfl⟩ := row_shape hrow
      have hfz := hE.ref.blk.frozen 1
      have hlvq : ∀ q, (Value.slice nA L1.length ncap).ownBlock = some q → w.heap.size ≤ q := fun q e => by have := (hrow.lt q e).1; omega
      have hkp := fun W hW => kept24_any W base r most L1 K (.slice nA L1.length ncap) bv hW (by omega) ⟨job, epoch, step, frm, unt, A, c, ns, cores⟩ now _ rfl
      generalize keptB L1 ⟨job, epoch, step, frm, unt, A, c, ns, cores⟩ now = kb at *
      simp only [CredD.val] at hkp
      have HKP := Lib.hid hkp
      have hcr := fun i => hE.cred.cell i
      simp only [CredD.cells] at hcr
      clear hkp hrow hfr HRL HE2
      have hgn : base ≤ w2.heap.size := by omega
      cases kb
      · simp only [Bool.false_eq_true, if_false] at hus
        go_wp2_with (go_at_call 24; refine (HKP.out _ HEN.out.ref).mono ?_; rintro e w4 ⟨rfl, hf4⟩; have E4 := HEN.out.next hf4; have q0 := E4.ref.blk.cell 0; have q1 := E4.ref.blk.cell 1; have l0 := Later.cell q0; have l1 := Later.cell q1; clear q0 q1)
        refine wp_region_later w4 (by kernel_rfl) (by kernel_rfl) (Fr.refl _ _) ?_
        repeat (go_big_quiet_step (fail))
        refine wpQuiet_nil ?_
        rintro _ ⟨d, rfl⟩
        have E5 := E4.next d.fr
        clear l0 l1 hcr hfz e1 hf4
        by_cases hfull : (L1.length : Int) = most
        · rw [if_pos hfull] at hus
          subst hus
          have b1 : ((L1.length : Int) == most) = true := by simpa using hfull
          clear hfull
          go_wp2
          go_ret
          exact ⟨rfl, ⟨_, E5.ref⟩, E5.fr⟩
        · rw [if_neg hfull] at hus
          subst hus
          have b1 : ((L1.length : Int) == most) = false := by simpa using hfull
          clear hfull
          have hown := E5.ref.list
          have s1 : L1.length + 1 ≤ maxLen := by unfold maxLen; omega
          have s2 : (L1.length + 1) * 72 ≤ 140737488355328 := by omega
          have s3 : base ≤ (d.val.alloc (.cells (CredD.cells ⟨job, epoch, step, frm, unt, A, c, ns, cores⟩) 31)).drew.heap.size := by have := E5.fr.size; simp; omega
          have n7 : ∀ j u, (CredD.cells ⟨job, epoch, step, frm, unt, A, c, ns, cores⟩).toList[j]? = some u → (d.val.alloc (.cells (CredD.cells ⟨job, epoch, step, frm, unt, A, c, ns, cores⟩) 31)).drew.cell? ((⟨d.val.heap.size, 0, none⟩ : Addr).add j) = some u := news7 d.val _
          have o7 := one7 ⟨job, epoch, step, frm, unt, A, c, ns, cores⟩
          have HO := Lib.hid ((hown.alloc (.cells (CredD.cells ⟨job, epoch, step, frm, unt, A, c, ns, cores⟩) 31)).drew)
          have q1 := E5.ref.blk.cell 1
          have q2 := fun i => E5.cred.cell i
          have q3 := E5.ref.blk.frozen 1
          have q5 := fun o => (E5.ref.blk.alloc o).cell 1
          simp only [CredD.cells] at s3 n7 o7 HO q2
          have hPU := fun (w6 : World) (v' : Value) (hr6) (hg6) => E5.push (w6 := w6) (v' := v') (o := .cells (CredD.cells ⟨job, epoch, step, frm, unt, A, c, ns, cores⟩) 31) (by have := E5.fr.size; omega) hlvq hr6 hg6
          have hne := E5.ref.ne_list
          have HBK := Lib.hid (fun (w6 : World) hg6 => (Blk.grown (w' := w6) (row := (Value.slice nA L1.length ncap).ownBlock) (w := (d.val.alloc (.cells (CredD.cells ⟨job, epoch, step, frm, unt, A, c, ns, cores⟩) 31)).drew) (E5.ref.blk.alloc _) hg6 hne))
          have HPU := Lib.hid hPU
          clear hown hPU hne
          go_wp2
          go_region_law ((refine step_append_lies _ (by rfl) _ _ _ (by rfl) base 31 i0 _ 7 72 Try.underlying36 hi hz0 hz1 hz2 rfl (by omega) (.slice nA L1.length ncap) L1.length _ (by rfl) HO.out ⟨d.val.heap.size, 0, none⟩ 1 1 _ (by rfl) (by rfl) n7 o7 (by omega) s1 s2 s3 (d.val.heap.size + 1) (by simp) ?_; intro g' cap1 w6 hown6 hgrow6 hat6 hlt6; have hb6 := HBK.out w6 hgrow6; have q6 := hb6.cell 1; have q7 := hb6.frozen 1))
          all_goals (go_wp2; go_ret)
          all_goals (have hp := HPU.out _ _ hown6 hgrow6; exact ⟨rfl, ⟨_, hp.1⟩, hp.2⟩)
      · simp only [if_true] at hus
        subst hus
        go_wp2_with (go_at_call 24; refine (HKP.out _ HEN.out.ref).mono ?_; rintro e w4 ⟨rfl, hf4⟩; have E4 := HEN.out.next hf4)
        go_ret
        exact ⟨rfl, ⟨_, E4.ref⟩, E4.fr⟩

/-- The reference's Use, whatever it is given. -/
theorem use21_any (w : World) (B base r : Nat) (most : Int) (L : List CredD) (K : List (Int × Int)) (lv bv : Value) (h : RefAt w base r most L K lv bv) (hL : L.length ≤ 64) (hK : K.length ≤ 64) (hbase : base ≤ w.heap.size) (x : CredD) (now : Int)
    (hA : Nums w B x.A x.ns) (hB : B ≤ w.heap.size) (hm : x.ns.length ≤ maxLen) :
    Calls Try.prog 21 #[.pointer (some ⟨r, 0, none⟩), x.val, .int .i64 now] w fun e w' => e = .returned (.int .i64 (useB most L K x now).1) ∧ (∃ lv', RefAt w' base r most (useB most L K x now).2 K lv' bv) ∧ Fr (fun k => k = r) w w' := by
  cases hok : x.ok
  · have e1 : useB most L K x now = (1, L) := by unfold useB; rw [if_pos hok]
    rw [e1]
    exact use21_bad w B base r most L K lv bv h x now hA hB hm hok
  · by_cases ht : x.until_ ≤ now
    · have e1 : useB most L K x now = (8, L) := by unfold useB; rw [if_neg (by simp [hok]), if_pos ht]
      rw [e1]
      exact use21_time w B base r most L K lv bv h x now hA hB hm hok ht
    · cases hr : revokedB K x.job x.epoch
      · exact use21_tail w B base r most L K lv bv h hL hK hbase x now hA hB hm hok (by omega) hr _ rfl
      · have e1 : useB most L K x now = (11, L) := by unfold useB; rw [if_neg (by simp [hok]), if_neg ht, if_pos hr]
        rw [e1]
        exact use21_revoked w B base r most L K lv bv h hK x now hA hB hm hok (by omega) hr

end Go.Proofs.Ytclokfjcjpigpaa
