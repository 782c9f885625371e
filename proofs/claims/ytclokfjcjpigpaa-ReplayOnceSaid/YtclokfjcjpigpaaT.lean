/-
  The reference's cache: Revoke.
-/
import Derived.Test.YtclokfjcjpigpaaS
import Derived.Deep.AppendLies
namespace Go.Proofs.Ytclokfjcjpigpaa
open Go.RowKit Go.Maps

theorem info62 : (Try.prog.info? 62).map (fun i => (i.zero, i.size, i.bytes)) = some (some (.agg #[.int .i64 0, .int .i64 0]), 2, 16) := by kernel_rfl
theorem info31 : (Try.prog.info? 31).map (fun i => (i.zero, i.size, i.bytes)) = some (some (.agg #[.int .i64 0, .int .i64 0, .int .i64 0, .int .i64 0, .int .i64 0, .slice none 0 0, .int .i64 0]), 7, 72) := by kernel_rfl

/-- The reference's list, the job raised to the epoch. -/
def raiseP (job epoch : Int) (p : Int × Int) : Int × Int := if p.1 == job then (p.1, max p.2 epoch) else p
def hasJ (K : List (Int × Int)) (job : Int) : Bool := K.any fun p => p.1 == job
def flatK (K : List (Int × Int)) : List Value := K.flatMap fun p => [.int .i64 p.1, .int .i64 p.2]

/-- What the reference's Revoke answers, and what it leaves. -/
def revokeB (K : List (Int × Int)) (job epoch : Int) : Int × List (Int × Int) :=
  if job < 0 ∨ 1099511627776 < job ∨ epoch < 0 ∨ 8 < epoch then (1, K)
  else if hasJ K job = false ∧ K.length = 64 then (6, K)
  else (0, K.map (raiseP job epoch) ++ (if hasJ K job then [] else [(job, epoch)]))

theorem flatK_snoc (K : List (Int × Int)) (a b : Int) : flatK (K ++ [(a, b)]) = flatK K ++ [.int .i64 a, .int .i64 b] := by simp [flatK]

theorem take_map_snoc {K : List (Int × Int)} {k : Nat} (hk : k < K.length) (f : Int × Int → Int × Int) : (K.take (k + 1)).map f = (K.take k).map f ++ [f (K[k]'hk)] := by
  rw [List.take_succ_eq_append_getElem hk, List.map_append]
  rfl
theorem hasJ_snoc {K : List (Int × Int)} {k : Nat} (hk : k < K.length) (job : Int) : hasJ (K.take (k + 1)) job = (hasJ (K.take k) job || (K[k]'hk).1 == job) := by
  rw [List.take_succ_eq_append_getElem hk]
  unfold hasJ
  rw [List.any_append]
  simp only [List.any_cons, List.any_nil, Bool.or_false]

set_option maxHeartbeats 1000000 in
theorem revoke22_bad (w : World) (r : Nat) (job epoch : Int) (hd : job < 0 ∨ 1099511627776 < job ∨ epoch < 0 ∨ 8 < epoch) :
    Calls Try.prog 22 #[.pointer (some ⟨r, 0, none⟩), .int .i64 job, .int .i64 epoch] w fun e w' => e = .returned (.int .i64 1) ∧ w = w' := by
  go_enter Try.func22, Try.ntmps22
  go_wp2
  all_goals first
    | (go_ret; exact ⟨rfl, rfl⟩)
    | (exfalso; omega)

structure RevRel (w wr : World) (K M : List (Int × Int)) (job : Int) (k : Nat) (nv fv : Value) : Prop where
  hk : k ≤ K.length
  row : wr.ownsRow w.heap.size 62 2 nv k (flatK (M.take k))
  found : fv = .bool (hasJ (K.take k) job)
  fr : Fr (fun _ => False) w wr

theorem RevRel.step {w wr w1 wx : World} {K M : List (Int × Int)} {job epoch : Int} {k : Nat} {nv fv v' : Value} {row : Option Nat} (h : RevRel w wr K M job k nv fv) (hk : k < K.length) {a b : Int} (hM : Hid (M = K.map (raiseP job epoch)))
    (hx : raiseP job epoch (K[k]'hk) = (a, b)) (hf : Fr (fun _ => False) wr wx) (hrow : w1.ownsRow w.heap.size 62 2 v' (k + 1) (flatK (M.take k) ++ [.int .i64 a, .int .i64 b])) (hg : wx.grownBy w1 row) (hr : row = nv.ownBlock) (fb : Bool) (hfb : fb = (hasJ (K.take k) job || (K[k]'hk).1 == job)) :
    RevRel w w1 K M job (k + 1) v' (.bool fb) where
  hk := hk
  row := by
    have e1 : M.take (k + 1) = M.take k ++ [(a, b)] := by
      rw [hM.out, ← List.map_take, ← List.map_take, take_map_snoc hk, hx]
    rw [e1, flatK_snoc]
    exact hrow
  found := by rw [hasJ_snoc hk, hfb]
  fr := (h.fr.then hf).grown hg fun q e => by
    rw [hr] at e
    exact Or.inr (h.row.lt q e).1

theorem news2 (W : World) (o : Obj) (a b : Value) : ∀ j u, [a, b][j]? = some u → ((W.alloc o).alloc (.cells #[a, b] 62)).cell? ((⟨W.heap.size + 1, 0, none⟩ : Addr).add j) = some u := by
  have h := heap_alloc_new (W.alloc o) (.cells #[a, b] 62)
  rw [World.size_alloc] at h
  exact World.news_of_block h

theorem row_succ {W : World} {base : Nat} {e : TypeId} {size : Nat} {v : Value} {k : Nat} {xs : List Value} (h : W.ownsRow base e size v (k + 1) xs) : ∃ g cap, v = .slice (some ⟨g, 0, none⟩) (k + 1) cap := by
  rcases h.2 with ⟨_, h0⟩ | ⟨g, cap, _, rfl, _⟩
  · omega
  · exact ⟨g, cap, rfl⟩

theorem ownsRow_base {w : World} {base base' : Nat} {e : TypeId} {size : Nat} {v : Value} {n : Nat} {xs : List Value} (h : w.ownsRow base' e size v n xs) (hb : base ≤ base') : w.ownsRow base e size v n xs := by
  obtain ⟨h1, h2⟩ := h
  refine ⟨h1, ?_⟩
  rcases h2 with h2 | ⟨g, cap, cur, rfl, hg, h3⟩
  · exact Or.inl h2
  · exact Or.inr ⟨g, cap, cur, rfl, by omega, h3⟩

theorem ownsRow_set {w : World} {base r : Nat} {e t : TypeId} {size : Nat} {v : Value} {n : Nat} {xs : List Value} {cs : Array Value} (h : w.ownsRow base e size v n xs) (hr : Blk w r t cs) (ht : t ≠ e) (i : Nat) (u : Value) : (w.setCell ⟨r, i, none⟩ u).ownsRow base e size v n xs := by
  refine ownsRow_fr h ((Fr.refl (fun k => k = r) w).setCell (Or.inl rfl) u) (fun k hk e1 => ?_)
  obtain ⟨cur, hc⟩ := ownsRow_block h hk
  subst e1
  unfold Blk at hr
  rw [hr] at hc
  cases hc
  exact ht rfl

theorem RefAt.setBack {w : World} {base r B : Nat} {most : Int} {L : List CredD} {K K' : List (Int × Int)} {lv bv nv : Value} (h : RefAt w base r most L K lv bv) (hrow : w.ownsRow B 62 2 nv K'.length (flatK K')) (hB : base ≤ B) :
    RefAt (w.setCell ⟨r, 2, none⟩ nv) base r most L K' lv nv where
  blk := h.blk.set_ 2 nv
  list := ownsRow_set h.list h.blk (by decide) _ _
  back := ownsRow_base (ownsRow_set hrow h.blk (by decide) _ _) hB
  hr := h.hr

theorem news1 (W : World) (a b : Value) : ∀ j u, [a, b][j]? = some u → (W.alloc (.cells #[a, b] 62)).cell? ((⟨W.heap.size, 0, none⟩ : Addr).add j) = some u :=
  World.news_of_block (heap_alloc_new W (.cells #[a, b] 62))

set_option maxHeartbeats 2000000 in
theorem revoke22_ok (w : World) (base r : Nat) (most : Int) (L : List CredD) (K : List (Int × Int)) (lv bv : Value) (h : RefAt w base r most L K lv bv) (hK : K.length ≤ 64) (hb : base ≤ w.heap.size) (job epoch : Int)
    (h1 : 0 ≤ job) (h2 : job ≤ 1099511627776) (h3 : 0 ≤ epoch) (h4 : epoch ≤ 8) (res : Int × List (Int × Int)) (hres : Hid (res = revokeB K job epoch)) :
    Calls Try.prog 22 #[.pointer (some ⟨r, 0, none⟩), .int .i64 job, .int .i64 epoch] w fun e w' =>
      e = .returned (.int .i64 res.1) ∧ (∃ bv', RefAt w' base r most L res.2 lv bv') ∧ Fr (fun k => k = r) w w' := by
  obtain ⟨i0, hi, hz0, hz1, hz2⟩ := info_parts info62
  obtain ⟨M, hM⟩ : ∃ M, Hid (M = K.map (raiseP job epoch)) := ⟨_, rfl⟩
  have HH := Lib.hid h
  have hr := h.blk.lt
  clear h
  go_enter Try.func22, Try.ntmps22
  go_wp2
  go_loopw [7, 8, 9] (fun nv fv i wr => ∃ k : Nat, i = .int .i64 k ∧ RevRel w wr K M job k nv fv) (fun _ _ i _ => K.length - (intOf i).toNat)
  case atStart => exact ⟨0, rfl, ⟨Nat.zero_le _, World.ownsRow_nil _ _ _ _, rfl, Fr.refl _ _⟩⟩
  case round =>
    obtain ⟨k, rfl, hrl⟩ := hrel
    have HRL := Lib.hid hrl
    obtain ⟨hk, hrow, hfound, hfr⟩ := hrl
    subst hfound
    have hR := HH.out.fr hfr (fun _ h => h.elim)
    have e1 := hR.blk.cell 2
    by_cases hlt : k < K.length
    · obtain ⟨g, cap, hlv, c1, c2⟩ := hR.elemK hlt
      subst hlv
      have HST := Lib.hid (fun w1 wx v' row a b hx hf hrow hg hr fb hfb => HRL.out.step (w1 := w1) (wx := wx) (v' := v') (row := row) (epoch := epoch) (a := a) (b := b) hlt hM hx hf hrow hg hr fb hfb)
      generalize K[k] = y at *
      obtain ⟨yj, ye⟩ := y
      simp only at c1 c2
      have hsz := hfr.size
      have s1 : k + 1 ≤ maxLen := by unfold maxLen; omega
      have s2 : (k + 1) * 16 ≤ 140737488355328 := by omega
      have s3 : ∀ o o', w.heap.size ≤ ((wr.alloc o).alloc o').heap.size := fun o o' => by rw [World.size_alloc, World.size_alloc]; omega
      by_cases hc : (yj == job) = true
      · by_cases hm : ye < epoch
        · go_wp2_with (at_builtin; refine wpList_append_own _ rfl _ _ 37 rfl w.heap.size 62 i0 (.agg #[.int .i64 0, .int .i64 0]) 2 16 Try.underlying37 hi hz0 hz1 hz2 rfl (by decide) _ _ _ rfl ((hrow.alloc _).alloc _) ⟨wr.heap.size + 1, 0, none⟩ 1 1 [.int .i64 yj, .int .i64 epoch] rfl rfl (news2 wr _ _ _) (by simp [Value.oneCell']) s1 s2 (s3 _ _) ?_; intro v' w1 hown1 hgrow1 hne1)
          go_roundw
          case rel => exact ⟨k + 1, by go_num, HST.out _ _ _ _ _ _ (by simp only [raiseP, hc, if_true]; rw [Int.max_eq_right (by omega)]) (((Fr.refl _ _).alloc _).alloc _) hown1 hgrow1 rfl _ (by simp [hc])⟩
          case measure => simp [intOf]; omega
        · go_wp2_with (at_builtin; refine wpList_append_own _ rfl _ _ 37 rfl w.heap.size 62 i0 (.agg #[.int .i64 0, .int .i64 0]) 2 16 Try.underlying37 hi hz0 hz1 hz2 rfl (by decide) _ _ _ rfl ((hrow.alloc _).alloc _) ⟨wr.heap.size + 1, 0, none⟩ 1 1 [.int .i64 yj, .int .i64 ye] rfl rfl (news2 wr _ _ _) (by simp [Value.oneCell']) s1 s2 (s3 _ _) ?_; intro v' w1 hown1 hgrow1 hne1)
          go_roundw
          case rel => exact ⟨k + 1, by go_num, HST.out _ _ _ _ _ _ (by simp only [raiseP, hc, if_true]; rw [Int.max_eq_left (by omega)]) (((Fr.refl _ _).alloc _).alloc _) hown1 hgrow1 rfl _ (by simp [hc])⟩
          case measure => simp [intOf]; omega
      · have hc : (yj == job) = false := by simpa using hc
        go_wp2_with (at_builtin; refine wpList_append_own _ rfl _ _ 37 rfl w.heap.size 62 i0 (.agg #[.int .i64 0, .int .i64 0]) 2 16 Try.underlying37 hi hz0 hz1 hz2 rfl (by decide) _ _ _ rfl ((hrow.alloc _).alloc _) ⟨wr.heap.size + 1, 0, none⟩ 1 1 [.int .i64 yj, .int .i64 ye] rfl rfl (news2 wr _ _ _) (by simp [Value.oneCell']) s1 s2 (s3 _ _) ?_; intro v' w1 hown1 hgrow1 hne1)
        go_roundw
        case rel => exact ⟨k + 1, by go_num, HST.out _ _ _ _ _ _ (by simp only [raiseP, hc]; rfl) (((Fr.refl _ _).alloc _).alloc _) hown1 hgrow1 rfl _ (by simp [hc])⟩
        case measure => simp [intOf]; omega
    · obtain rfl : k = K.length := by omega
      obtain ⟨A', cap', rfl⟩ := hR.shapeK
      rw [List.take_length]
      clear HRL
      have hML : M.length = K.length := by rw [hM.out, List.length_map]
      rw [show M.take K.length = M by rw [← hML]; exact List.take_length] at hrow
      have hsz := hfr.size
      have hbf := hR.blk.frozen 2
      have hbw : base ≤ w.heap.size := hb
      have hnv : ∃ A cap, u7 = .slice A K.length cap := by
        obtain ⟨_, h2⟩ := hrow
        rcases h2 with ⟨rfl, h3⟩ | ⟨g, cap, cur, rfl, _⟩
        · exact ⟨none, 0, by rw [h3]⟩
        · exact ⟨_, cap, rfl⟩
      obtain ⟨nA, ncap, rfl⟩ := hnv
      have HRR := Lib.hid hR
      have HRO := Lib.hid hrow
      have HW := Lib.hid hML
      have hrs : res = if hasJ K job = false ∧ K.length = 64 then (6, K) else (0, K.map (raiseP job epoch) ++ (if hasJ K job then [] else [(job, epoch)])) := by
        rw [hres.out]
        unfold revokeB
        rw [if_neg (by omega)]
      clear hML hres
      have hJr : hasJ K job = true → res = (0, M) := fun hJ => by rw [hrs, if_neg (fun h => by rw [hJ] at h; cases h.1), hM.out, hJ]; simp
      have hJf : hasJ K job = false → res = if K.length = 64 then (6, K) else (0, M ++ [(job, epoch)]) := fun hJ => by
        rw [hrs]
        by_cases h64 : K.length = 64
        · rw [if_pos ⟨hJ, h64⟩, if_pos h64]
        · rw [if_neg (fun h => h64 h.2), if_neg h64, hM.out, hJ]; rfl
      clear hrs
      generalize hasJ K job = fb at *
      cases fb
      · have hJf := hJf rfl
        clear hJr
        by_cases h64 : K.length = 64
        · rw [if_pos h64] at hJf
          subst hJf
          have b1 : ((K.length : Int) == 64) = true := by simp; omega
          clear h64 HW
          go_wp2
          go_ret
          exact ⟨rfl, ⟨_, HRR.out⟩, hfr.mono (fun _ _ h => h.elim)⟩
        · rw [if_neg h64] at hJf
          subst hJf
          have b1 : ((K.length : Int) == 64) = false := by simp; omega
          have s1 : K.length + 1 ≤ maxLen := by unfold maxLen; omega
          have s2 : (K.length + 1) * 16 ≤ 140737488355328 := by omega
          have s3 : ∀ o, w.heap.size ≤ (wr.alloc o).heap.size := fun o => by rw [World.size_alloc]; omega
          have hkr := HRO.out.lt
          clear h64
          go_wp2_with (at_builtin; refine wpList_append_own _ rfl _ _ 37 rfl w.heap.size 62 i0 (.agg #[.int .i64 0, .int .i64 0]) 2 16 Try.underlying37 hi hz0 hz1 hz2 rfl (by decide) _ _ _ rfl (HRO.out.alloc _) ⟨wr.heap.size, 0, none⟩ 1 1 [.int .i64 job, .int .i64 epoch] rfl rfl (news1 wr _ _) (by simp [Value.oneCell']) s1 s2 (s3 _) ?_; intro v' w1 hown1 hgrow1 hne1; obtain ⟨g', cap1, rfl⟩ := row_succ hown1; have hf1 := (hfr.alloc _).grown hgrow1 (fun q e => Or.inr (hkr q e).1); have hR1 := HH.out.fr hf1 (fun _ h => h.elim); have e2 := hR1.blk.cell 2; have e3 := hR1.blk.frozen 2)
          go_ret
          refine ⟨rfl, ⟨_, hR1.setBack (K' := M ++ [(job, epoch)]) (by rw [List.length_append, HW.out, flatK_snoc]; exact hown1) hbw⟩, Fr.setCell (S := fun k => k = r) (p := ⟨r, 2, none⟩) (hf1.mono (fun _ _ h => h.elim)) (Or.inl rfl) _⟩
      · have hJr := hJr rfl
        subst hJr
        clear hJf
        go_wp2
        go_ret
        refine ⟨rfl, ⟨_, HRR.out.setBack (K' := M) (by rw [HW.out]; exact HRO.out) hbw⟩, Fr.setCell (S := fun k => k = r) (p := ⟨r, 2, none⟩) (hfr.mono (fun _ _ h => h.elim)) (Or.inl rfl) _⟩

theorem revoke22_any (w : World) (base r : Nat) (most : Int) (L : List CredD) (K : List (Int × Int)) (lv bv : Value) (h : RefAt w base r most L K lv bv) (hK : K.length ≤ 64) (hb : base ≤ w.heap.size) (job epoch : Int) :
    Calls Try.prog 22 #[.pointer (some ⟨r, 0, none⟩), .int .i64 job, .int .i64 epoch] w fun e w' =>
      e = .returned (.int .i64 (revokeB K job epoch).1) ∧ (∃ bv', RefAt w' base r most L (revokeB K job epoch).2 lv bv') ∧ Fr (fun k => k = r) w w' := by
  by_cases hd : job < 0 ∨ 1099511627776 < job ∨ epoch < 0 ∨ 8 < epoch
  · have e1 : revokeB K job epoch = (1, K) := by unfold revokeB; rw [if_pos hd]
    rw [e1]
    exact (revoke22_bad w r job epoch hd).mono fun e w' ⟨he, hw⟩ => ⟨he, ⟨bv, hw ▸ h⟩, hw ▸ Fr.refl _ _⟩
  · exact revoke22_ok w base r most L K lv bv h hK hb job epoch (by omega) (by omega) (by omega) (by omega) _ rfl

end Go.Proofs.Ytclokfjcjpigpaa
