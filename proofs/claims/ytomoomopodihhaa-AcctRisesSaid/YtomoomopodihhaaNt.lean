/-
  The reference's book: Note.
-/
import Derived.Test.YtomoomopodihhaaR
namespace Go.Proofs.Ytomoomopodihhaa
open Go.RowKit Go.Maps Go.Sort Go.Shelf

/-- One round of Note: what is laid so far, and whether the job is. -/
def stepR (job n : Int) (st : List (Int × Int) × Bool) (x : Int × Int) : List (Int × Int) × Bool :=
  if x.1 == job then (st.1 ++ [(x.1, addS x.2 n)], true)
  else if st.2 = false ∧ job < x.1 then (st.1 ++ [(job, n)] ++ [x], true) else (st.1 ++ [x], st.2)
def foldR (job n : Int) (K : List (Int × Int)) : List (Int × Int) × Bool := K.foldl (stepR job n) ([], false)
def putR (job n : Int) (K : List (Int × Int)) : List (Int × Int) := if (foldR job n K).2 then (foldR job n K).1 else (foldR job n K).1 ++ [(job, n)]
def noteR (K : List (Int × Int)) (u : UseD) : Int × List (Int × Int) := if u.bad then (1, K) else (0, putR u.job (ofS u).1 K)

theorem foldR_take {job n : Int} {K : List (Int × Int)} {k : Nat} (hk : k < K.length) : foldR job n (K.take (k + 1)) = stepR job n (foldR job n (K.take k)) (K[k]'hk) := by
  unfold foldR
  rw [List.take_succ_eq_append_getElem hk, List.foldl_append]
  rfl
theorem foldR_len (job n : Int) (K : List (Int × Int)) (k : Nat) (hk : k ≤ K.length) : (foldR job n (K.take k)).1.length ≤ 2 * k := by
  induction k with
  | zero => simp [foldR]
  | succ k ih =>
    have h1 := ih (by omega)
    rw [foldR_take (by omega)]
    unfold stepR
    split
    · simp only [List.length_append, List.length_cons, List.length_nil]; omega
    · split
      · simp only [List.length_append, List.length_cons, List.length_nil]; omega
      · simp only [List.length_append, List.length_cons, List.length_nil]; omega
theorem flatK_snoc (K : List (Int × Int)) (a b : Int) : flatK (K ++ [(a, b)]) = flatK K ++ [.int .i64 a, .int .i64 b] := by simp [flatK, pairV]

theorem RBook.set {w : World} {base r B : Nat} {K K' : List (Int × Int)} {lv nv : Value} (h : RBook w base r K lv) (hrow : w.ownsRow B 78 2 nv K'.length (flatK K')) (hB : base ≤ B) : RBook (w.setCell ⟨r, 0, none⟩ nv) base r K' nv where
  blk := h.blk.set_ 0 nv
  row := ownsRow_base_a' (ownsRow_set hrow h.blk (by decide) _ _) hB
  hr := h.hr

theorem news_two (W : World) (t t' : TypeId) (o : Array Value) (L : List Value) : ∀ j u, L[j]? = some u → ((W.alloc (.cells o t')).alloc (.cells L.toArray t)).cell? ((⟨W.heap.size + 1, 0, none⟩ : Addr).add j) = some u := by
  have h := heap_alloc_new (W.alloc (.cells o t')) (.cells L.toArray t)
  rw [World.size_alloc] at h
  exact World.news_of_block h

set_option maxHeartbeats 400000 in
theorem note24_bad (w : World) (r : Nat) (u : UseD) (hu : u.wf) (hb : u.bad) : Calls Try.prog 24 #[.pointer (some ⟨r, 0, none⟩), u.val] w fun e w' => e = .returned (.int .i64 1) ∧ Fr (fun _ => False) w w' := by
  have h16 := fun W => of16_any u hu W
  rw [ofS_bad hb] at h16
  obtain ⟨job, cores, frm, til⟩ := u
  simp only [UseD.val, UseD.cells] at *
  have H16 := Lib.hid h16
  clear h16 hu hb
  go_enter Try.func24, Try.ntmps24
  go_wp2_with (go_at_call 16; refine (H16.out _).mono ?_; rintro e w1 ⟨rfl, hf1⟩)
  go_ret
  exact ⟨rfl, ((Fr.refl _ w).alloc _).then hf1⟩

/-- Between two rounds. -/
structure NoteRel (w1 wr : World) (job n : Int) (K : List (Int × Int)) (k : Nat) (nv : Value) (lb : Bool) : Prop where
  hk : k ≤ K.length
  row : wr.ownsRow w1.heap.size 78 2 nv (foldR job n (K.take k)).1.length (flatK (foldR job n (K.take k)).1)
  laid : lb = (foldR job n (K.take k)).2
  fr : Fr (fun _ => False) w1 wr

set_option maxRecDepth 20000 in
set_option maxHeartbeats 4000000 in
theorem note24_ok (w : World) (base r : Nat) (K : List (Int × Int)) (lv : Value) (h : RBook w base r K lv) (hK : K.length ≤ 1000) (hw : ∀ p ∈ K, wf64 p.1 ∧ wf64 p.2) (hbs : base ≤ w.heap.size) (u : UseD) (hu : u.wf) (hb : ¬ u.bad) (res : List (Int × Int)) (hres : Hid (res = putR u.job (ofS u).1 K)) :
    Calls Try.prog 24 #[.pointer (some ⟨r, 0, none⟩), u.val] w fun e w' => e = .returned (.int .i64 0) ∧ (∃ nv, RBook w' base r res nv) ∧ Fr (fun k => k = r) w w' := by
  obtain ⟨i0, hi, hz0, hz1, hz2⟩ := info_parts info78
  have h16 := fun W => of16_any u hu W
  have hnw : wf64 (ofS u).1 := by rw [ofS_ok hb]; exact (timesS_wf _ _).1
  have hs2 : (ofS u).2 = 0 := by rw [ofS_ok hb]
  rw [hs2] at h16
  generalize (ofS u).1 = n at *
  have HB := Lib.hid (Blk.new w 23 u.cells)
  obtain ⟨job, cores, frm, til⟩ := u
  simp only [UseD.val, UseD.cells] at *
  have H16 := Lib.hid h16
  have HH := Lib.hid h
  have HW := Lib.hid hw
  clear h16 hu hb hs2 h hw
  go_enter Try.func24, Try.ntmps24
  go_wp2_with fail
  refine (H16.out _).mono ?_
  rintro e w1 ⟨rfl, hf1⟩
  have hF1 : Fr (fun _ => False) w w1 := ((Fr.refl _ w).alloc _).then hf1
  have HR1 := Lib.hid (HH.out.fr0 hF1)
  have HB1 := Lib.hid (HB.out.fr hf1 (fun h => h))
  have hsz1 := hF1.size
  go_wp2_with fail
  go_loopw [7, 8, 9] (fun nv fv i wr => ∃ (k : Nat) (lb : Bool), i = .int .i64 k ∧ fv = .bool lb ∧ NoteRel w1 wr job n K k nv lb) (fun _ _ i _ => K.length - (intOf i).toNat)
  case atStart => exact ⟨0, false, rfl, rfl, ⟨Nat.zero_le _, World.ownsRow_nil _ _ _ _, rfl, Fr.refl _ _⟩⟩
  case round =>
    obtain ⟨k, lb, rfl, rfl, hrl⟩ := hrel
    obtain ⟨hk, hrow, hlaid, hfr⟩ := hrl
    have hR := HR1.out.fr0 hfr
    have hU := HB1.out.fr hfr (fun h => h)
    have e1 := hR.blk.cell 0
    have hlen := foldR_len job n K k hk
    by_cases hlt : k < K.length
    · obtain ⟨g, cap, hlv, c1, c2⟩ := hR.elem hlt
      subst hlv
      have hst := foldR_take (job := job) (n := n) hlt
      have hyw := HW.out _ (List.getElem_mem hlt)
      generalize K[k] = y at *
      obtain ⟨yj, ye⟩ := y
      simp only at c1 c2 hyw
      have hsz := hfr.size
      have hkr := hrow.lt
      have u0 := (hU.alloc (.cells #[.int .i64 yj, .int .i64 ye] 78)).cell 0
      generalize hFL : foldR job n (K.take k) = st at *
      obtain ⟨L, lb0⟩ := st
      simp only at hrow hlaid hlen hst
      subst hlaid
      have s1 : L.length + 1 ≤ maxLen := by unfold maxLen; omega
      have s2 : (L.length + 1) * 16 ≤ 140737488355328 := by omega
      have s3 : ∀ o o', w1.heap.size ≤ ((wr.alloc o).alloc o').heap.size := fun o o' => by rw [World.size_alloc, World.size_alloc]; omega
      by_cases hc : (yj == job) = true
      · have h18 := fun W => add18_any ye n hyw.2 hnw W
        rw [stepR, if_pos hc] at hst
        simp only at hst
        generalize addS ye n = s at *
        have H18 := Lib.hid h18
        have HST := Lib.hid hst
        clear h18 hst
        go_wp2_with (first
          | (go_at_call 18; refine (H18.out _).mono ?_; rintro e wx ⟨rfl, rfl⟩)
          | (at_builtin; refine wpList_append_own _ rfl _ _ 37 rfl w1.heap.size 78 i0 (.agg #[.int .i64 0, .int .i64 0]) 2 16 Try.underlying37 hi hz0 hz1 hz2 rfl (by decide) _ _ _ rfl ((hrow.alloc _).alloc _) ⟨wr.heap.size + 1, 0, none⟩ 1 1 [.int .i64 yj, .int .i64 s] rfl rfl (news_two wr _ _ _ _) (by simp [Value.oneCell']) s1 s2 (s3 _ _) ?_; intro v' w2 hown2 hgrow2 hne2))
        go_roundw
        case rel => exact ⟨k + 1, true, by go_num, rfl, ⟨hlt, by rw [HST.out]; simp only [List.length_append, List.length_cons, List.length_nil]; rw [flatK_snoc]; exact hown2, by rw [HST.out], ((hfr.alloc _).alloc _).grown hgrow2 (fun q e => Or.inr (hkr q e).1)⟩⟩
        case measure => simp [intOf]; omega
      · have hc : (yj == job) = false := by simpa using hc
        rw [stepR, hc] at hst
        simp only [Bool.false_eq_true, if_false] at hst
        by_cases hl : lb = false ∧ job < yj
        · rw [if_pos hl] at hst
          obtain ⟨rfl, hgt⟩ := hl
          have b1 : decide (job < yj) = true := decide_eq_true hgt
          have HST := Lib.hid hst
          have s1' : L.length + 1 + 1 ≤ maxLen := by unfold maxLen; omega
          have s2' : (L.length + 1 + 1) * 16 ≤ 140737488355328 := by omega
          clear hst hgt
          have hX := ((Blk.new wr 78 #[.int .i64 yj, .int .i64 ye]).alloc (.cells #[.int .i64 job, .int .i64 n] 78))
          have hnx : ∀ q, u7.ownBlock = some q → q ≠ wr.heap.size := fun q e => by have := (hkr q e).2; omega
          go_wp2_with (first
            | (at_builtin; refine wpList_append_own _ rfl _ _ 37 rfl w1.heap.size 78 i0 (.agg #[.int .i64 0, .int .i64 0]) 2 16 Try.underlying37 hi hz0 hz1 hz2 rfl (by decide) _ _ _ rfl ((hrow.alloc _).alloc _) ⟨wr.heap.size + 1, 0, none⟩ 1 1 [.int .i64 job, .int .i64 n] rfl rfl (news_two wr _ _ _ _) (by simp [Value.oneCell']) s1 s2 (s3 _ _) ?_; intro v' w2 hown2 hgrow2 hne2; clear hrow; have hX2 := hX.grown hgrow2 (fun e => hnx _ e.symm rfl); have x2 := fun i => hX2.cell i; have hf2 := ((hfr.alloc (.cells #[.int .i64 yj, .int .i64 ye] 78)).alloc (.cells #[.int .i64 job, .int .i64 n] 78)).grown hgrow2 (fun q e => Or.inr (hkr q e).1); have hs2 := hf2.size; have ht3 : ∀ o, w1.heap.size ≤ (w2.alloc o).heap.size := fun o => by rw [World.size_alloc]; omega)
            | (at_builtin; refine wpList_append_own _ rfl _ _ 37 rfl w1.heap.size 78 i0 (.agg #[.int .i64 0, .int .i64 0]) 2 16 Try.underlying37 hi hz0 hz1 hz2 rfl (by decide) _ _ _ rfl (hown2.alloc _) ⟨w2.heap.size, 0, none⟩ 1 1 [.int .i64 yj, .int .i64 ye] rfl rfl (news_one w2 78 [.int .i64 yj, .int .i64 ye]) (by simp [Value.oneCell']) s1' s2' (ht3 _) ?_; intro v'' w3 hown3 hgrow3 hne3))
          go_roundw
          case rel => exact ⟨k + 1, true, by go_num, rfl, ⟨hlt, by rw [HST.out]; simp only [List.length_append, List.length_cons, List.length_nil]; rw [flatK_snoc, flatK_snoc]; exact hown3, by rw [HST.out], (hf2.alloc _).grown hgrow3 (fun q e => Or.inr (hown2.lt q e).1)⟩⟩
          case measure => simp [intOf]; omega
        · rw [if_neg hl] at hst
          cases lb
          · have hgt : ¬ job < yj := fun h => hl ⟨rfl, h⟩
            have b1 : decide (job < yj) = false := decide_eq_false hgt
            have HST := Lib.hid hst
            clear hst hgt hl
            go_wp2_with (at_builtin; refine wpList_append_own _ rfl _ _ 37 rfl w1.heap.size 78 i0 (.agg #[.int .i64 0, .int .i64 0]) 2 16 Try.underlying37 hi hz0 hz1 hz2 rfl (by decide) _ _ _ rfl ((hrow.alloc _).alloc _) ⟨wr.heap.size + 1, 0, none⟩ 1 1 [.int .i64 yj, .int .i64 ye] rfl rfl (news_two wr _ _ _ _) (by simp [Value.oneCell']) s1 s2 (s3 _ _) ?_; intro v' w2 hown2 hgrow2 hne2)
            go_roundw
            case rel => exact ⟨k + 1, false, by go_num, rfl, ⟨hlt, by rw [HST.out]; simp only [List.length_append, List.length_cons, List.length_nil]; rw [flatK_snoc]; exact hown2, by rw [HST.out], ((hfr.alloc _).alloc _).grown hgrow2 (fun q e => Or.inr (hkr q e).1)⟩⟩
            case measure => simp [intOf]; omega
          · have HST := Lib.hid hst
            clear hst hl
            go_wp2_with (at_builtin; refine wpList_append_own _ rfl _ _ 37 rfl w1.heap.size 78 i0 (.agg #[.int .i64 0, .int .i64 0]) 2 16 Try.underlying37 hi hz0 hz1 hz2 rfl (by decide) _ _ _ rfl ((hrow.alloc _).alloc _) ⟨wr.heap.size + 1, 0, none⟩ 1 1 [.int .i64 yj, .int .i64 ye] rfl rfl (news_two wr _ _ _ _) (by simp [Value.oneCell']) s1 s2 (s3 _ _) ?_; intro v' w2 hown2 hgrow2 hne2)
            go_roundw
            case rel => exact ⟨k + 1, true, by go_num, rfl, ⟨hlt, by rw [HST.out]; simp only [List.length_append, List.length_cons, List.length_nil]; rw [flatK_snoc]; exact hown2, by rw [HST.out], ((hfr.alloc _).alloc _).grown hgrow2 (fun q e => Or.inr (hkr q e).1)⟩⟩
            case measure => simp [intOf]; omega
    · obtain rfl : k = K.length := by omega
      rw [List.take_length] at hrow hlaid hlen
      obtain ⟨A', cap', rfl⟩ := hR.shape
      have hsz := hfr.size
      have u0 := hU.cell 0
      have hP : res = if lb then (foldR job n K).1 else (foldR job n K).1 ++ [(job, n)] := by rw [hres.out, putR, ← hlaid]
      have HP := Lib.hid hP
      have HRR := Lib.hid hR
      clear hP hR
      generalize (foldR job n K).1 = L at *
      clear hlaid hres
      cases lb
      · obtain rfl : res = L ++ [(job, n)] := HP.out
        clear HP
        have s1 : L.length + 1 ≤ maxLen := by unfold maxLen; omega
        have s2 : (L.length + 1) * 16 ≤ 140737488355328 := by omega
        have s3 : ∀ o, w1.heap.size ≤ (wr.alloc o).heap.size := fun o => by rw [World.size_alloc]; omega
        have hkr := hrow.lt
        go_wp2_with (at_builtin; refine wpList_append_own _ rfl _ _ 37 rfl w1.heap.size 78 i0 (.agg #[.int .i64 0, .int .i64 0]) 2 16 Try.underlying37 hi hz0 hz1 hz2 rfl (by decide) _ _ _ rfl (hrow.alloc _) ⟨wr.heap.size, 0, none⟩ 1 1 [.int .i64 job, .int .i64 n] rfl rfl (news_one wr 78 [.int .i64 job, .int .i64 n]) (by simp [Value.oneCell']) s1 s2 (s3 _) ?_; intro v' w2 hown1 hgrow1 hne1; obtain ⟨g', cap1, rfl⟩ := row_succ hown1; have hf1' := (hfr.alloc (.cells #[.int .i64 job, .int .i64 n] 78)).grown hgrow1 (fun q e => Or.inr (hkr q e).1); have hR1 := HR1.out.fr0 hf1'; have e2 := hR1.blk.cell 0; have e3 := hR1.blk.frozen 0)
        go_ret
        refine ⟨rfl, ⟨_, hR1.set (K' := L ++ [(job, n)]) (by rw [List.length_append, flatK_snoc]; exact hown1) (by omega)⟩, Fr.setCell (S := fun k => k = r) (p := ⟨r, 0, none⟩) ((hF1.then hf1').mono (fun _ _ h => h.elim)) (Or.inl rfl) _⟩
      · obtain rfl : res = L := HP.out
        clear HP
        obtain ⟨nA, ncap, rfl⟩ := row_shape hrow
        have e3 := HRR.out.blk.frozen 0
        go_wp2
        go_ret
        refine ⟨rfl, ⟨_, HRR.out.set (K' := res) hrow (by omega)⟩, Fr.setCell (S := fun k => k = r) (p := ⟨r, 0, none⟩) ((hF1.then hfr).mono (fun _ _ h => h.elim)) (Or.inl rfl) _⟩

theorem note24_any (w : World) (base r : Nat) (K : List (Int × Int)) (lv : Value) (h : RBook w base r K lv) (hK : K.length ≤ 1000) (hw : ∀ p ∈ K, wf64 p.1 ∧ wf64 p.2) (hbs : base ≤ w.heap.size) (u : UseD) (hu : u.wf) :
    Calls Try.prog 24 #[.pointer (some ⟨r, 0, none⟩), u.val] w fun e w' => e = .returned (.int .i64 (noteR K u).1) ∧ (∃ nv, RBook w' base r (noteR K u).2 nv) ∧ Fr (fun k => k = r) w w' := by
  by_cases hb : u.bad
  · have e1 : noteR K u = (1, K) := if_pos hb
    rw [e1]
    exact (note24_bad w r u hu hb).mono fun e w' ⟨he, hf⟩ => ⟨he, ⟨lv, h.fr0 hf⟩, hf.mono (fun _ _ h => h.elim)⟩
  · have e1 : noteR K u = (0, putR u.job (ofS u).1 K) := if_neg hb
    rw [e1]
    exact note24_ok w base r K lv h hK hw hbs u hu hb _ rfl

end Go.Proofs.Ytomoomopodihhaa
