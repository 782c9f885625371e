/-
  AcctBooks, walked.
-/
import Derived.Test.YtomoomopodihhaaPl
import Derived.Test.YtomoomopodihhaaUs
import Derived.Deep.RegionHeld3
namespace Go.Proofs.Ytomoomopodihhaa
open Go.RowKit Go.Maps Go.Sort Go.Shelf

/-- Both books in memory. -/
structure BSt (W : World) (base b m r : Nat) (M K : List (Int × Int)) : Prop where
  book : BookAt W b m M
  ref : ∃ lv, RBook W base r K lv
  hb : b < base
  hm : m < base
  hs : base ≤ W.heap.size

section
variable {W W' : World} {base b m r : Nat} {M M' K K' : List (Int × Int)}
theorem BSt.fr0 (h : BSt W base b m r M K) (hf : Fr (fun _ => False) W W') : BSt W' base b m r M K where
  book := h.book.fr hf (fun h => h) (fun h => h)
  ref := by obtain ⟨lv, hr⟩ := h.ref; exact ⟨lv, hr.fr0 hf⟩
  hb := h.hb
  hm := h.hm
  hs := Nat.le_trans h.hs hf.size
theorem BSt.noteP (h : BSt W base b m r M K) (hb : BookAt W' b m M') (hf : Fr (fun k => k = m) W W') : BSt W' base b m r M' K where
  book := hb
  ref := by obtain ⟨lv, hr⟩ := h.ref; exact ⟨lv, hr.fr hf (fun k e => by have := h.hm; omega)⟩
  hb := h.hb
  hm := h.hm
  hs := Nat.le_trans h.hs hf.size
theorem BSt.noteQ (h : BSt W base b m r M K) (hr' : ∃ lv, RBook W' base r K' lv) (hf : Fr (fun k => k = r) W W') : BSt W' base b m r M K' where
  book := by
    obtain ⟨lv, hr⟩ := h.ref
    exact h.book.fr hf (fun e => by have := h.hb; have := hr.hr; omega) (fun e => by have := h.hm; have := hr.hr; omega)
  ref := hr'
  hb := h.hb
  hm := h.hm
  hs := Nat.le_trans h.hs hf.size

theorem BSt.c23 (h : BSt W base b m r M K) (hl : M.length < 1000000) (u : UseD) (hu : u.wf) (c : Int) (hc : noteS M u = (c, M')) :
    Calls Try.prog 23 #[.pointer (some ⟨b, 0, none⟩), u.val] W fun e W' => e = .returned (.int .i64 c) ∧ BSt W' base b m r M' K ∧ Fr (fun k => k = m) W W' := by
  refine (note23_any W b m M h.book hl u hu).mono ?_
  rintro e W' ⟨rfl, hb, hf⟩
  rw [hc] at hb
  rw [hc]
  exact ⟨rfl, h.noteP hb hf, hf⟩
theorem BSt.c24 (h : BSt W base b m r M K) (hl : K.length ≤ 1000) (hw : ∀ p ∈ K, wf64 p.1 ∧ wf64 p.2) (u : UseD) (hu : u.wf) (c : Int) (hc : noteR K u = (c, K')) :
    Calls Try.prog 24 #[.pointer (some ⟨r, 0, none⟩), u.val] W fun e W' => e = .returned (.int .i64 c) ∧ BSt W' base b m r M K' ∧ Fr (fun k => k = r) W W' := by
  obtain ⟨lv, hr⟩ := h.ref
  refine (note24_any W base r K lv hr hl hw h.hs u hu).mono ?_
  rintro e W' ⟨rfl, hr', hf⟩
  rw [hc] at hr'
  rw [hc]
  exact ⟨rfl, h.noteQ hr' hf, hf⟩
theorem BSt.c25 (h : BSt W base b m r M K) (job v : Int) (hj : wf64 job) (hv : (findK M job).getD 0 = v) :
    Calls Try.prog 25 #[.pointer (some ⟨b, 0, none⟩), .int .i64 job] W fun e W' => e = .returned (.int .i64 v) ∧ W = W' := by
  subst hv
  exact job25_any W b m M h.book job hj
theorem BSt.c26 (h : BSt W base b m r M K) (hl : K.length ≤ 1000) (job v : Int) (hv : (findK K job).getD 0 = v) :
    Calls Try.prog 26 #[.pointer (some ⟨r, 0, none⟩), .int .i64 job] W fun e W' => e = .returned (.int .i64 v) ∧ W = W' := by
  subst hv
  obtain ⟨lv, hr⟩ := h.ref
  exact job26_any W base r K lv hr hl job
theorem BSt.c27 (h : BSt W base b m r M K) (v : Int) (hv : allS (rowsS M) = v) :
    Calls Try.prog 27 #[.pointer (some ⟨b, 0, none⟩)] W fun e W' => e = .returned (.int .i64 v) ∧ Fr (fun _ => False) W W' := by
  subst hv
  exact all27_any W b m M h.book
theorem BSt.c28 (h : BSt W base b m r M K) (hl : K.length ≤ 1000) (hw : ∀ p ∈ K, wf64 p.1 ∧ wf64 p.2) (v : Int) (hv : allS K = v) :
    Calls Try.prog 28 #[.pointer (some ⟨r, 0, none⟩)] W fun e W' => e = .returned (.int .i64 v) ∧ W = W' := by
  subst hv
  obtain ⟨lv, hr⟩ := h.ref
  exact all28_any W base r K lv hr hl hw
theorem BSt.c30 (h : BSt W base b m r M K) (L : List Int) (hL : jobsS M = L) :
    Calls Try.prog 30 #[.pointer (some ⟨b, 0, none⟩)] W fun e W' => ∃ v, e = .returned v ∧ IntsAt W' v L ∧ Fr (fun _ => False) W W' := by
  subst hL
  refine (jobs30_s W b m M h.book).mono ?_
  rintro e W' ⟨v, rfl, hv, hf⟩
  exact ⟨v, rfl, ownsRow_base_a' hv (Nat.zero_le _), hf⟩
theorem BSt.c31 (h : BSt W base b m r M K) (hl : K.length ≤ 1000) (L : List Int) (hL : K.map (·.1) = L) :
    Calls Try.prog 31 #[.pointer (some ⟨r, 0, none⟩)] W fun e W' => ∃ v, e = .returned v ∧ IntsAt W' v L ∧ Fr (fun _ => False) W W' := by
  subst hL
  obtain ⟨lv, hr⟩ := h.ref
  exact jobs31_any W base r K lv hr hl
end

/-- The cells of one use in a list. -/
def El (W : World) (a o : Nat) (job cores frm til : Int) : Prop :=
  W.cell? ⟨a, o, none⟩ = some (.int .i64 job) ∧ W.cell? ⟨a, o + 1, none⟩ = some (.int .i64 cores) ∧ W.cell? ⟨a, o + 2, none⟩ = some (.int .i64 frm) ∧ W.cell? ⟨a, o + 3, none⟩ = some (.int .i64 til)
theorem El.below {W W' : World} {B a o : Nat} {job cores frm til : Int} (h : El W a o job cores frm til) (hb : Below B W W') (ha : a < B) : El W' a o job cores frm til :=
  ⟨(hb.cell (p := ⟨a, o, none⟩) ha).trans h.1, (hb.cell (p := ⟨a, o + 1, none⟩) ha).trans h.2.1, (hb.cell (p := ⟨a, o + 2, none⟩) ha).trans h.2.2.1, (hb.cell (p := ⟨a, o + 3, none⟩) ha).trans h.2.2.2⟩
theorem El.fr {W W' : World} {S : Nat → Prop} {B a o : Nat} {job cores frm til : Int} (h : El W a o job cores frm til) (hf : Fr S W W') (hB : B ≤ W.heap.size) (hs : ∀ i, S i → B ≤ i) (ha : a < B) : El W' a o job cores frm til :=
  h.below (hf.below hB hs) ha

theorem Uses.el {w : World} {B : Nat} {A : Option Addr} {l : List UseD} (h : Uses w B A l) {k : Nat} (hk : k < l.length) :
    ∃ a off, A = some ⟨a, off, none⟩ ∧ a < B ∧ El w a (off + k * 4) (l[k]'hk).job (l[k]'hk).cores (l[k]'hk).frm (l[k]'hk).til := by
  obtain ⟨b, off, rfl, hB, hc⟩ := h.at_ k hk
  exact ⟨b, off, rfl, hB, hc 0 _ rfl, hc 1 _ rfl, hc 2 _ rfl, hc 3 _ rfl⟩

set_option maxRecDepth 20000 in
set_option maxHeartbeats 2000000 in
theorem books4_any (w : World) (A : Option Addr) (cap : Nat) (l : List UseD) (h : Uses w w.heap.size A l) (hl : l.length ≤ maxLen) :
    Calls Try.prog 4 #[.slice A l.length cap] w fun e w' => e = .returned (.bool true) ∧ Below w.heap.size w w' := by
  have HU := Lib.hid h
  clear h
  by_cases h60 : 60 < l.length
  · have b1 : decide ((60 : Int) < (l.length : Int)) = true := decide_eq_true (by omega)
    go_enter Try.func4, Try.ntmps4
    go_wp2_with fail
    refine (new22_any _).mono ?_
    rintro e w1 ⟨rfl, hb1, hf1⟩
    go_wp2_with fail
    refine (live_any _).mono ?_
    rintro e w2 ⟨rfl, hf2⟩
    go_wp2_with fail
    go_ret
    exact ⟨rfl, (hf1.then hf2).below0⟩
  · have b1 : decide ((60 : Int) < (l.length : Int)) = false := decide_eq_false (by omega)
    go_enter Try.func4, Try.ntmps4
    go_wp2_with fail
    refine (new22_any _).mono ?_
    rintro e w1 ⟨rfl, hb1, hf1⟩
    have hz1 := hb1.blk.lt
    have hz0 := hf1.size
    have R1 : RBook (w1.alloc (.cells #[.slice none 0 0] 39)) w1.heap.size w1.heap.size [] (.slice none 0 0) := ⟨Blk.new w1 39 #[.slice none 0 0], World.ownsRow_nil _ _ _ _, Nat.le_refl _⟩
    have S1 : BSt (w1.alloc (.cells #[.slice none 0 0] 39)) w1.heap.size (w.heap.size + 1) w.heap.size w1.heap.size [] [] :=
      ⟨hb1.fr ((Fr.refl (fun _ => False) w1).alloc _) (fun h => h) (fun h => h), ⟨_, R1⟩, hz1, by omega, by simp⟩
    have F1 : Below w.heap.size w (w1.alloc (.cells #[.slice none 0 0] 39)) := (hf1.alloc _).below0
    have HS1 := Lib.hid S1
    have HF1 := Lib.hid F1
    clear S1 R1 F1 hb1
    go_wp2_with fail
    go_loopw [5] (fun i wr => ∃ (k : Nat) (M K : List (Int × Int)), k ≤ l.length ∧ i = .int .i64 k ∧ BSt wr w1.heap.size (w.heap.size + 1) w.heap.size w1.heap.size M K ∧ SimB M K ∧ M.length ≤ k ∧ Below w.heap.size w wr) (fun i _ => l.length - (intOf i).toNat)
    case atStart => exact ⟨0, [], [], Nat.zero_le _, rfl, HS1.out, SimB.nil, Nat.le_refl _, HF1.out⟩
    case round =>
      obtain ⟨k, M, K, hk, rfl, hS, hsim, hML, hB⟩ := hrel
      by_cases hlt : k < l.length
      · obtain ⟨a, off, rfl, ha, hel⟩ := (HU.out.below hB).el hlt
        have huw := HU.out.wf _ (List.getElem_mem hlt)
        have hsn := hsim.note _ huw
        have hln := noteS_len M l[k]
        generalize l[k] = u at *
        obtain ⟨c, M', hM⟩ : ∃ c M', noteS M u = (c, M') := ⟨_, _, rfl⟩
        obtain ⟨c', K', hK⟩ : ∃ c K', noteR K u = (c, K') := ⟨_, _, rfl⟩
        rw [hM, hK] at hsn
        rw [hM] at hln
        simp only at hsn hln
        obtain ⟨rfl, hsim'⟩ := hsn
        have hlK : K.length ≤ 1000 := by rw [← hsim.len]; omega
        have hlK' : K'.length ≤ 1000 := by rw [← hsim'.len]; omega
        have q23 := fun W (s : BSt W w1.heap.size (w.heap.size + 1) w.heap.size w1.heap.size M K) => s.c23 (by omega) u huw c' hM
        have q24 := fun W (s : BSt W w1.heap.size (w.heap.size + 1) w.heap.size w1.heap.size M' K) => s.c24 hlK hsim.wf u huw c' hK
        obtain ⟨jv, hjv⟩ : ∃ jv, (findK M' u.job).getD 0 = jv := ⟨_, rfl⟩
        obtain ⟨av, hav⟩ : ∃ av, allS K' = av := ⟨_, rfl⟩
        obtain ⟨L, hL⟩ : ∃ L, K'.map (·.1) = L := ⟨_, rfl⟩
        have hLl : L.length ≤ 10000000 := by rw [← hL, List.length_map]; omega
        have q25 := fun W (s : BSt W w1.heap.size (w.heap.size + 1) w.heap.size w1.heap.size M' K') => s.c25 u.job jv huw.job hjv
        have q26 := fun W (s : BSt W w1.heap.size (w.heap.size + 1) w.heap.size w1.heap.size M' K') => s.c26 hlK' u.job jv (by rw [← hsim'.find]; exact hjv)
        have q27 := fun W (s : BSt W w1.heap.size (w.heap.size + 1) w.heap.size w1.heap.size M' K') => s.c27 av (by rw [hsim'.rows]; exact hav)
        have q28 := fun W (s : BSt W w1.heap.size (w.heap.size + 1) w.heap.size w1.heap.size M' K') => s.c28 hlK' hsim'.wf av hav
        have q30 := fun W (s : BSt W w1.heap.size (w.heap.size + 1) w.heap.size w1.heap.size M' K') => s.c30 L (by rw [hsim'.jobs]; exact hL)
        have q31 := fun W (s : BSt W w1.heap.size (w.heap.size + 1) w.heap.size w1.heap.size M' K') => s.c31 hlK' L hL
        have q29 := fun W v v' (i1 : IntsAt W v L) (i2 : IntsAt W v' L) => same29_any W v v' L L i1 i2 hLl hLl true (by simp [Hid])
        have q15 := fun W => own15_any u W
        have E0 := hel.below ((Fr.refl (fun _ => False) wr).drew.below0) (by have := hB.size; omega)
        have S0 := hS.fr0 (Fr.refl (fun _ => False) wr).drew
        obtain ⟨job, cores, frm, til⟩ := u
        simp only [UseD.val, UseD.cells] at *
        have HE0 := Lib.hid E0
        have HS0 := Lib.hid S0
        have Q23 := Lib.hid q23
        have Q24 := Lib.hid q24
        have Q25 := Lib.hid q25
        have Q26 := Lib.hid q26
        have Q27 := Lib.hid q27
        have Q28 := Lib.hid q28
        have Q30 := Lib.hid q30
        have Q31 := Lib.hid q31
        have Q29 := Lib.hid q29
        have Q15 := Lib.hid q15
        have HB := Lib.hid hB
        have HSM := Lib.hid hsim'
        clear q23 q24 q25 q26 q27 q28 q30 q31 q29 q15 E0 S0 hel hB hsim hsim' hS hM hK hjv hav hL huw hlK hlK' hLl
        have hB0 := HB.out.size
        go_wp2_with fail
        go_region_held3 (fun W => W.cell? ⟨a, off + k * 4, none⟩ = some (.int .i64 job) ∧ W.cell? ⟨a, off + k * 4 + 1, none⟩ = some (.int .i64 cores) ∧ W.cell? ⟨a, off + k * 4 + 2, none⟩ = some (.int .i64 frm) ∧ W.cell? ⟨a, off + k * 4 + 3, none⟩ = some (.int .i64 til))
          (first | exact HE0.out | exact HE1.out | exact HE2.out | exact HE3.out | exact HE4.out | exact HE5.out | exact HE6.out | exact HE7.out)
          (first
            | (go_at_call 15; refine (Q15.out _).mono ?_; rintro e v1 ⟨rfl, hv1⟩; have HE1 := Lib.hid (HE0.out.fr (B := w.heap.size) hv1 (by have := hB0; simpa using this) (fun _ h => h.elim) ha); have HS1' := Lib.hid (HS0.out.fr0 hv1))
            | (go_at_call 23; refine (Q23.out _ HS1'.out).mono ?_; rintro e v2 ⟨rfl, s2, hv2⟩; have HE2 := Lib.hid (HE1.out.fr (B := w.heap.size) hv2 (Nat.le_trans hB0 (by have := hv1.size; simpa using this)) (fun _ h => Nat.le_of_eq h.symm) ha))
            | (go_at_call 24; refine (Q24.out _ s2).mono ?_; rintro e v3 ⟨rfl, s3, hv3⟩; have HE3 := Lib.hid (HE2.out.fr (B := w.heap.size) hv3 (Nat.le_trans hz0 s2.hs) (fun _ h => Nat.le_trans hz0 (Nat.le_of_eq h.symm)) ha))
            | (go_at_call 25; refine (Q25.out _ s3).mono ?_; rintro e v4 ⟨rfl, rfl⟩)
            | (go_at_call 26; refine (Q26.out _ s3).mono ?_; rintro e v4 ⟨rfl, rfl⟩)
            | (go_at_call 27; refine (Q27.out _ s3).mono ?_; rintro e v4 ⟨rfl, hv4⟩; have s4 := s3.fr0 hv4; have HE4 := Lib.hid (HE3.out.fr (B := w.heap.size) hv4 (Nat.le_trans hz0 s3.hs) (fun _ h => h.elim) ha))
            | (go_at_call 28; refine (Q28.out _ s4).mono ?_; rintro e v5 ⟨rfl, rfl⟩)
            | (go_at_call 30; refine (Q30.out _ s4).mono ?_; rintro e v5 ⟨x5, rfl, i5, hv5⟩; have s5 := s4.fr0 hv5; have HE5 := Lib.hid (HE4.out.fr (B := w.heap.size) hv5 (Nat.le_trans hz0 s4.hs) (fun _ h => h.elim) ha))
            | (go_at_call 31; refine (Q31.out _ s5).mono ?_; rintro e v6 ⟨x6, rfl, i6, hv6⟩; have s6 := s5.fr0 hv6; have i5' := i5.fr0 hv6; have HE6 := Lib.hid (HE5.out.fr (B := w.heap.size) hv6 (Nat.le_trans hz0 s5.hs) (fun _ h => h.elim) ha))
            | (go_at_call 29; refine (Q29.out _ _ _ i5' i6).mono ?_; rintro e v7 ⟨rfl, hv7⟩; have s7 := s6.fr0 hv7; have HE7 := Lib.hid (HE6.out.fr (B := w.heap.size) hv7 (Nat.le_trans hz0 s6.hs) (fun _ h => h.elim) ha)))
        have F := ((((((((Fr.refl (fun i => i = w.heap.size ∨ i = w1.heap.size) wr).drew.trans hv1 (fun _ _ h => h.elim)).trans hv2 (fun _ _ h => Or.inl h)).trans hv3 (fun _ _ h => Or.inr h)).trans hv4 (fun _ _ h => h.elim)).trans hv5 (fun _ _ h => h.elim)).trans hv6 (fun _ _ h => h.elim)).trans hv7 (fun _ _ h => h.elim))
        have hBe := HB.out.trans (F.below HB.out.size (fun i h => by rcases h with h | h <;> omega))
        go_wp2_with fail
        go_roundw
        case rel => exact ⟨k + 1, M', K', by omega, by go_num, s7, HSM.out, by omega, hBe⟩
        case measure => simp [intOf]; omega
      · obtain rfl : k = l.length := by omega
        go_wp2_with fail
        refine (live_any _).mono ?_
        rintro e w2 ⟨rfl, hf2⟩
        go_wp2_with fail
        go_ret
        exact ⟨rfl, hB.trans (hf2.below hB.size (fun _ h => h.elim))⟩

end Go.Proofs.Ytomoomopodihhaa
