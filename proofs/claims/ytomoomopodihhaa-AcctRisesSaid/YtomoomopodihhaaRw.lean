/-
  AcctRises, walked.
-/
import Derived.Test.YtomoomopodihhaaRp
import Derived.Test.YtomoomopodihhaaBw
namespace Go.Proofs.Ytomoomopodihhaa
open Go.RowKit Go.Maps Go.Sort Go.Shelf

/-- Two books of the program's in memory, apart. -/
structure TwoB (W : World) (b m : Nat) (M : List (Int × Int)) (b2 m2 : Nat) (N : List (Int × Int)) : Prop where
  one : BookAt W b m M
  two : BookAt W b2 m2 N
  ord : m < b ∧ b < m2 ∧ m2 < b2

section
variable {W W' : World} {b m b2 m2 : Nat} {M M' N N' : List (Int × Int)}
theorem TwoB.fr0 (h : TwoB W b m M b2 m2 N) (hf : Fr (fun _ => False) W W') : TwoB W' b m M b2 m2 N :=
  ⟨h.one.fr hf (fun h => h) (fun h => h), h.two.fr hf (fun h => h) (fun h => h), h.ord⟩
theorem TwoB.c23a (h : TwoB W b m M b2 m2 N) (hl : M.length < 1000000) (u : UseD) (hu : u.wf) (M' : List (Int × Int)) (hM : (noteS M u).2 = M') :
    Calls Try.prog 23 #[.pointer (some ⟨b, 0, none⟩), u.val] W fun e W' => ∃ c, e = .returned (.int .i64 c) ∧ TwoB W' b m M' b2 m2 N ∧ Fr (fun k => k = m) W W' := by
  subst hM
  refine (note23_any W b m M h.one hl u hu).mono ?_
  rintro e W' ⟨rfl, hb, hf⟩
  have := h.ord
  exact ⟨_, rfl, ⟨hb, h.two.fr hf (by omega) (by omega), h.ord⟩, hf⟩
theorem TwoB.c23b (h : TwoB W b m M b2 m2 N) (hl : N.length < 1000000) (u : UseD) (hu : u.wf) (N' : List (Int × Int)) (hN : (noteS N u).2 = N') :
    Calls Try.prog 23 #[.pointer (some ⟨b2, 0, none⟩), u.val] W fun e W' => ∃ c, e = .returned (.int .i64 c) ∧ TwoB W' b m M b2 m2 N' ∧ Fr (fun k => k = m2) W W' := by
  subst hN
  refine (note23_any W b2 m2 N h.two hl u hu).mono ?_
  rintro e W' ⟨rfl, hb, hf⟩
  have := h.ord
  exact ⟨_, rfl, ⟨h.one.fr hf (by omega) (by omega), hb, h.ord⟩, hf⟩
theorem book25 (h : BookAt W b m M) (job v : Int) (hj : wf64 job) (hv : (findK M job).getD 0 = v) :
    Calls Try.prog 25 #[.pointer (some ⟨b, 0, none⟩), .int .i64 job] W fun e W' => e = .returned (.int .i64 v) ∧ W = W' := by
  subst hv
  exact job25_any W b m M h job hj
theorem book27 (h : BookAt W b m M) (v : Int) (hv : allS (rowsS M) = v) :
    Calls Try.prog 27 #[.pointer (some ⟨b, 0, none⟩)] W fun e W' => e = .returned (.int .i64 v) ∧ Fr (fun _ => False) W W' := by
  subst hv
  exact all27_any W b m M h
theorem book30 (h : BookAt W b m M) (L : List Int) (hL : jobsS M = L) :
    Calls Try.prog 30 #[.pointer (some ⟨b, 0, none⟩)] W fun e W' => ∃ v, e = .returned v ∧ IntsAt W' v L ∧ Fr (fun _ => False) W W' := by
  subst hL
  refine (jobs30_s W b m M h).mono ?_
  rintro e W' ⟨v, rfl, hv, hf⟩
  exact ⟨v, rfl, ownsRow_base_a' hv (Nat.zero_le _), hf⟩
end

theorem take_reverse_wf {l : List UseD} (h : ∀ u ∈ l, u.wf) (k : Nat) : (∀ u ∈ l.take k, u.wf) ∧ ∀ u ∈ l.reverse.take k, u.wf :=
  ⟨fun u hu => h u (List.mem_of_mem_take hu), fun u hu => h u (by simpa using List.mem_of_mem_take hu)⟩

set_option maxRecDepth 20000 in
set_option maxHeartbeats 4000000 in
theorem rises5_any (w : World) (A : Option Addr) (cap : Nat) (l : List UseD) (h : Uses w w.heap.size A l) (hl : l.length ≤ maxLen) :
    Calls Try.prog 5 #[.slice A l.length cap] w fun e w' => e = .returned (.bool true) ∧ Below w.heap.size w w' := by
  have HU := Lib.hid h
  clear h
  by_cases h60 : 60 < l.length
  · have b1 : decide ((60 : Int) < (l.length : Int)) = true := decide_eq_true (by omega)
    go_enter Try.func5, Try.ntmps5
    go_wp2_with fail
    refine (new22_any _).mono ?_
    rintro e w1 ⟨rfl, hb1, hf1⟩
    go_wp2_with fail
    refine (new22_any _).mono ?_
    rintro e w2 ⟨rfl, hb2, hf2⟩
    go_wp2_with fail
    refine (live_any _).mono ?_
    rintro e w3 ⟨rfl, hf3⟩
    go_wp2_with fail
    go_ret
    exact ⟨rfl, ((hf1.then hf2).then hf3).below0⟩
  · have b1 : decide ((60 : Int) < (l.length : Int)) = false := decide_eq_false (by omega)
    go_enter Try.func5, Try.ntmps5
    go_wp2_with fail
    refine (new22_any _).mono ?_
    rintro e w1 ⟨rfl, hb1, hf1⟩
    go_wp2_with fail
    refine (new22_any _).mono ?_
    rintro e w2 ⟨rfl, hb2, hf2⟩
    have hz1 := hb1.blk.lt
    have S1 : TwoB w2 (w.heap.size + 1) w.heap.size [] (w1.heap.size + 1) w1.heap.size [] := ⟨hb1.fr hf2 (fun h => h) (fun h => h), hb2, by omega⟩
    have HS1 := Lib.hid S1
    have HF1 := Lib.hid ((hf1.then hf2).below0)
    clear hb1 hb2 S1
    generalize hB2 : w1.heap.size = z at *
    generalize hB1 : w.heap.size = y at *
    go_wp2_with fail
    go_loopw [5] (fun i wr => ∃ k : Nat, k ≤ l.length ∧ i = .int .i64 k ∧ TwoB wr (y + 1) y (bookS (l.take k)) (z + 1) z (bookS (l.reverse.take k)) ∧ Below y w wr) (fun i _ => l.length - (intOf i).toNat)
    case atStart => exact ⟨0, Nat.zero_le _, rfl, HS1.out, HF1.out⟩
    case round =>
      obtain ⟨k, hk, rfl, hS, hB⟩ := hrel
      have hBz := hB.size
      by_cases hlt : k < l.length
      · obtain ⟨a, off, rfl, ha, hel⟩ := (HU.out.below hB).el hlt
        obtain ⟨k', hk'⟩ : ∃ k', k' + k + 1 = l.length := ⟨l.length - 1 - k, by omega⟩
        have hlt' : k' < l.length := by omega
        obtain ⟨a', off', haa, _, hel'⟩ := (HU.out.below hB).el hlt'
        cases haa
        have hrev : l.reverse.take (k + 1) = l.reverse.take k ++ [l[k']'hlt'] := by
          rw [List.take_succ_eq_append_getElem (by simpa using hlt), List.getElem_reverse]
          congr 2
          congr 1
          omega
        have htk : l.take (k + 1) = l.take k ++ [l[k]'hlt] := List.take_succ_eq_append_getElem hlt
        have huw := HU.out.wf _ (List.getElem_mem hlt)
        have huw' := HU.out.wf _ (List.getElem_mem hlt')
        have hsm := book_sim (take_reverse_wf HU.out.wf k).1
        have r1 := rises_all hsm _ huw
        have r2 := rises_job hsm (l[k]'hlt)
        have hnA : (noteS (bookS (l.take k)) (l[k]'hlt)).2 = bookS (l.take (k + 1)) := by rw [htk, bookS_snoc]
        have hnB : (noteS (bookS (l.reverse.take k)) (l[k']'hlt')).2 = bookS (l.reverse.take (k + 1)) := by rw [hrev, bookS_snoc]
        have lA : (bookS (l.take k)).length < 1000000 := by have := bookS_len (l.take k); rw [List.length_take] at this; omega
        have lB : (bookS (l.reverse.take k)).length < 1000000 := by have := bookS_len (l.reverse.take k); rw [List.length_take, List.length_reverse] at this; omega
        rw [hnA] at r1 r2
        clear hrev htk hsm
        generalize l[k] = u at *
        generalize l[k'] = u' at *
        have HBB := Lib.hid hB
        generalize bookS (l.take k) = M at *
        generalize bookS (l.reverse.take k) = N at *
        generalize hA1 : allS (rowsS (bookS (l.take (k + 1)))) = av1 at *
        generalize hA0 : allS (rowsS M) = av0 at *
        generalize hJ1 : (findK (bookS (l.take (k + 1))) u.job).getD 0 = jv1 at *
        generalize hJ0 : (findK M u.job).getD 0 = jv0 at *
        have hav : 0 ≤ av1 := by rw [← hA1]; exact (allS_wf _).2
        generalize hM1 : bookS (l.take (k + 1)) = M1 at *
        generalize hN1 : bookS (l.reverse.take (k + 1)) = N1 at *
        have HM1 := Lib.hid hM1
        have HN1 := Lib.hid hN1
        clear hM1 hN1
        have g1 : decide (av1 < av0) = false := decide_eq_false (by omega)
        have g2 : decide (jv1 < jv0) = false := decide_eq_false (by omega)
        have g3 : decide (av1 < 0) = false := decide_eq_false (by omega)
        have hix : (l.length : Int) - 1 - (k : Int) = (k' : Int) := by omega
        have q15 := fun W => own15_any u W
        have q15' := fun W => own15_any u' W
        have q23 := fun W (s : TwoB W (y + 1) y M (z + 1) z N) => s.c23a lA u huw M1 hnA
        have q23' := fun W (s : TwoB W (y + 1) y M1 (z + 1) z N) => s.c23b lB u' huw' N1 hnB
        have q25 := fun W (s : TwoB W (y + 1) y M (z + 1) z N) => book25 s.one u.job jv0 huw.job hJ0
        have q25' := fun W (s : TwoB W (y + 1) y M1 (z + 1) z N) => book25 s.one u.job jv1 huw.job hJ1
        have q27 := fun W (s : TwoB W (y + 1) y M (z + 1) z N) => book27 s.one av0 hA0
        have q27' := fun W (s : TwoB W (y + 1) y M1 (z + 1) z N) => book27 s.one av1 hA1
        obtain ⟨job, cores, frm, til⟩ := u
        obtain ⟨job', cores', frm', til'⟩ := u'
        simp only [UseD.val, UseD.cells] at *
        have Q15 := Lib.hid q15
        have Q15' := Lib.hid q15'
        have Q23 := Lib.hid q23
        have Q23' := Lib.hid q23'
        have Q25 := Lib.hid q25
        have Q25' := Lib.hid q25'
        have Q27 := Lib.hid q27
        have Q27' := Lib.hid q27'
        have HE := Lib.hid hel
        have HE' := Lib.hid hel'
        clear q15 q15' q23 q23' q25 q25' q27 q27' hel hel' hB huw huw' hnA hnB hA1 hA0 hJ1 hJ0 lA lB r1 r2 hav
        have hyz : y ≤ wr.heap.size := by omega
        go_wp2_with fail
        refine (Q27.out _ hS).mono ?_
        rintro e v1 ⟨rfl, f1⟩
        have S1 := hS.fr0 f1
        have x1 := HE.out.fr (B := y) f1 hyz (fun _ h => h.elim) ha
        have p1 := f1.size
        obtain ⟨c1, c2, c3, c4⟩ := id x1
        go_wp2_with fail
        refine (Q25.out _ S1).mono ?_
        rintro e v2 ⟨rfl, rfl⟩
        go_wp2_with fail
        refine (Q15.out _).mono ?_
        rintro e v2 ⟨rfl, f2⟩
        clear c1 c2 c3 c4
        have S2 := S1.fr0 f2
        have x2 := x1.fr (B := y) f2 (by omega) (fun _ h => h.elim) ha
        have p2 := f2.size
        go_wp2_with fail
        refine (Q23.out _ S2).mono ?_
        rintro e v3 ⟨cc, rfl, S3, f3⟩
        have x3 := x2.fr (B := y) f3 (by omega) (fun _ h => by omega) ha
        have p3 := f3.size
        go_wp2_with fail
        refine (Q27'.out _ S3).mono ?_
        rintro e v4 ⟨rfl, f4⟩
        have S4 := S3.fr0 f4
        have x4 := x3.fr (B := y) f4 (by omega) (fun _ h => h.elim) ha
        have p4 := f4.size
        obtain ⟨c1, c2, c3, c4⟩ := id x4
        go_wp2_with fail
        refine (Q25'.out _ S4).mono ?_
        rintro e v5 ⟨rfl, rfl⟩
        clear c1 c2 c3 c4
        go_wp2_with fail
        refine (Q27'.out _ S4).mono ?_
        rintro e v5 ⟨rfl, f5⟩
        have S5 := S4.fr0 f5
        have p5 := f5.size
        have F5 := (((f1.then f2).mono (S' := fun i => i = y ∨ i = z) (fun _ _ h => h.elim)).trans f3 (fun _ _ h => Or.inl h)).trans (f4.then f5) (fun _ _ h => h.elim)
        have x5 := HE'.out.fr (B := y) F5 hyz (fun i h => by rcases h with h | h <;> omega) ha
        obtain ⟨c1, c2, c3, c4⟩ := id x5
        go_wp2_with fail
        refine (Q15'.out _).mono ?_
        rintro e v6 ⟨rfl, f6⟩
        clear c1 c2 c3 c4
        have S6 := S5.fr0 f6
        go_wp2_with fail
        refine (Q23'.out _ S6).mono ?_
        rintro e v7 ⟨cc', rfl, S7, f7⟩
        have F7 := (F5.trans f6 (fun _ _ h => h.elim)).trans f7 (fun _ _ h => Or.inr h)
        have hBe := HBB.out.trans (F7.below hyz (fun i h => by rcases h with h | h <;> omega))
        go_wp2_with fail
        go_roundw
        case rel => exact ⟨k + 1, by omega, by go_num, by rw [HM1.out, HN1.out]; exact S7, hBe⟩
        case measure => simp [intOf]; omega
      · obtain rfl : k = l.length := by omega
        have e1 : l.reverse.take l.length = l.reverse := List.take_of_length_le (by simp)
        rw [List.take_length, e1] at hS
        have hpm := book_perm (List.reverse_perm l).symm
        have hsA := book_sim HU.out.wf
        have hsB := book_sim (l := l.reverse) (fun u hu => HU.out.wf u (by simpa using hu))
        have hRR := books_same HU.out.wf (List.reverse_perm l).symm
        have hjA : jobsS (bookS l) = jobsS (bookS l.reverse) := by rw [hsA.jobs, hsB.jobs, hRR]
        have hrA : allS (rowsS (bookS l)) = allS (rowsS (bookS l.reverse)) := by rw [hsA.rows, hsB.rows, hRR]
        have hjl : (jobsS (bookS l)).length ≤ 10000000 := by have := bookS_len l; rw [jobsS_length]; omega
        have HP := Lib.hid hpm
        generalize bookS l = M at *
        generalize bookS l.reverse = N at *
        generalize hav : allS (rowsS M) = av at *
        generalize hJs : jobsS M = J at *
        have q27 := fun W (s : TwoB W (y + 1) y M (z + 1) z N) => book27 s.one av hav
        have q27' := fun W (s : TwoB W (y + 1) y M (z + 1) z N) => book27 s.two av hrA.symm
        have q30 := fun W (s : TwoB W (y + 1) y M (z + 1) z N) => book30 s.one J hJs
        have q30' := fun W (s : TwoB W (y + 1) y M (z + 1) z N) => book30 s.two J hjA.symm
        have q29 := fun W v v' (i1 : IntsAt W v J) (i2 : IntsAt W v' J) => same29_any W v v' J J i1 i2 hjl hjl true (by simp [Hid])
        have Q27 := Lib.hid q27
        have Q27' := Lib.hid q27'
        have Q30 := Lib.hid q30
        have Q30' := Lib.hid q30'
        have Q29 := Lib.hid q29
        have HS := Lib.hid hS
        have HB := Lib.hid hB
        clear q27 q27' q30 q30' q29 hpm hsA hsB hRR hjA hrA hav hJs hjl e1 hS hB
        go_wp2_with fail
        go_loopw [8] (fun i wq => ∃ k : Nat, k ≤ l.length ∧ i = .int .i64 k ∧ TwoB wq (y + 1) y M (z + 1) z N ∧ Below y w wq) (fun i _ => l.length - (intOf i).toNat)
        case atStart => exact ⟨0, Nat.zero_le _, rfl, HS.out, HB.out⟩
        case round =>
          obtain ⟨k, hk, rfl, hS, hB⟩ := hrel
          have hBz := hB.size
          by_cases hlt : k < l.length
          · obtain ⟨a, off, rfl, ha, hel⟩ := (HU.out.below hB).el hlt
            have huw := HU.out.wf _ (List.getElem_mem hlt)
            generalize l[k] = u at *
            obtain ⟨jv, hjv⟩ : ∃ jv, (findK M u.job).getD 0 = jv := ⟨_, rfl⟩
            have hjv' : (findK N u.job).getD 0 = jv := by rw [← HP.out]; exact hjv
            have q25 := fun (d : Later wr) => book25 (hS.fr0 d.fr).one u.job jv huw.job hjv
            have q25' := fun (d : Later wr) => book25 (hS.fr0 d.fr).two u.job jv huw.job hjv'
            obtain ⟨job, cores, frm, til⟩ := u
            simp only at q25 q25' hel
            have l0 := Later.cell hel.1
            have Q25 := Lib.hid q25
            have Q25' := Lib.hid q25'
            have HS2 := Lib.hid hS
            have HB2 := Lib.hid hB
            clear q25 q25' hel hjv hjv' huw hS hB
            go_wp2_with fail
            refine wp_region_later wr (by kernel_rfl) (by kernel_rfl) (Fr.refl _ _) ?_
            repeat (go_big_quiet_step (fail))
            go_big_quiet_step ((go_at_call 25; exact later_call ((Q25.out _).mono fun _ _ ⟨he, hw⟩ => ⟨he, hw ▸ Fr.refl _ _⟩)))
            clear Q25
            repeat (go_big_quiet_step (fail))
            go_big_quiet_step ((go_at_call 25; exact later_call ((Q25'.out _).mono fun _ _ ⟨he, hw⟩ => ⟨he, hw ▸ Fr.refl _ _⟩)))
            repeat (go_big_quiet_step (fail))
            refine wpQuiet_nil ?_
            rintro _ ⟨d, rfl⟩
            go_wp2
            go_roundw
            case rel => exact ⟨k + 1, by omega, by go_num, HS2.out.fr0 d.fr, HB2.out.trans (d.fr.below (by omega) (fun _ h => h.elim))⟩
            case measure => simp [intOf]; omega
          · obtain rfl : k = l.length := by omega
            have HB2 := Lib.hid hB
            clear hB
            go_wp2_with fail
            refine (Q27.out _ hS).mono ?_
            rintro e v1 ⟨rfl, f1⟩
            have S1 := hS.fr0 f1
            go_wp2_with fail
            refine (Q27'.out _ S1).mono ?_
            rintro e v2 ⟨rfl, f2⟩
            have S2 := S1.fr0 f2
            go_wp2_with fail
            refine (Q30.out _ S2).mono ?_
            rintro e v3 ⟨r3, rfl, i3, f3⟩
            have S3 := S2.fr0 f3
            go_wp2_with fail
            refine (Q30'.out _ S3).mono ?_
            rintro e v4 ⟨r4, rfl, i4, f4⟩
            have i3' := i3.fr0 f4
            go_wp2_with fail
            refine (Q29.out _ _ _ i3' i4).mono ?_
            rintro e v5 ⟨rfl, f5⟩
            go_wp2_with fail
            refine (live_any _).mono ?_
            rintro e v6 ⟨rfl, f6⟩
            go_wp2_with fail
            go_ret
            refine ⟨rfl, ?_⟩
            rw [hB1]
            exact HB2.out.trans (((((f1.then f2).then f3).then f4).then (f5.then f6)).below (by omega) (fun _ h => h.elim))

end Go.Proofs.Ytomoomopodihhaa
