/-
  The program's book: New, Job, Note.
-/
import Derived.Test.YtomoomopodihhaaB
import Derived.StillTail
namespace Go.Proofs.Ytomoomopodihhaa
open Go.RowKit Go.Maps

/-- The book lies in block b, its map in block m; it holds the pairs M. -/
structure BookAt (w : World) (b m : Nat) (M : List (Int × Int)) : Prop where
  blk : Blk w b 77 #[.map (some m)]
  map : MapL Try.prog 3 w m (M.map kP)
  wf : ∀ p ∈ M, wf64 p.1 ∧ wf64 p.2
  len : M.length ≤ 1000000

theorem BookAt.fr {S : Nat → Prop} {w w' : World} {b m : Nat} {M : List (Int × Int)} (h : BookAt w b m M) (hf : Fr S w w') (hb : ¬ S b) (hm : ¬ S m) : BookAt w' b m M :=
  ⟨h.blk.fr hf hb, h.map.fr hf hm, h.wf, h.len⟩

set_option maxHeartbeats 400000 in
theorem new22_any (w : World) : Calls Try.prog 22 #[] w fun e w' => e = .returned (.pointer (some ⟨w.heap.size + 1, 0, none⟩)) ∧ BookAt w' (w.heap.size + 1) w.heap.size [] ∧ Fr (fun _ => False) w w' := by
  have hr := @run_makeMap Try.prog
  go_enter Try.func22, Try.ntmps22
  go_wp2
  go_ret
  refine ⟨rfl, ⟨?_, ?_, by simp, by simp⟩, ((Fr.refl _ w).alloc _).alloc _⟩
  · have := Blk.new (w.alloc (.map #[] 0)) 77 #[.map (some w.heap.size)]
    simpa using this
  · exact (MapL.made w Try.prog 3).alloc _

set_option maxHeartbeats 400000 in
theorem job25_any (w : World) (b m : Nat) (M : List (Int × Int)) (h : BookAt w b m M) (job : Int) (hj : wf64 job) :
    Calls Try.prog 25 #[.pointer (some ⟨b, 0, none⟩), .int .i64 job] w fun e w' => e = .returned (.int .i64 ((findK M job).getD 0)) ∧ w = w' := by
  have c0 : w.cell? ⟨b, 0, none⟩ = some (.map (some m)) := h.blk.cell 0
  have hl := lookM1 Try.underlying75 h.map hj
  go_enter Try.func25, Try.ntmps25
  go_wp2
  go_ret
  exact ⟨rfl, rfl⟩

set_option maxHeartbeats 400000 in
theorem job25_nil (w : World) (job : Int) : Calls Try.prog 25 #[.pointer none, .int .i64 job] w fun e w' => e = .returned (.int .i64 0) ∧ w = w' := by
  go_enter Try.func25, Try.ntmps25
  go_wp2
  go_ret
  exact ⟨rfl, rfl⟩

/-- What Note answers, and what it leaves. -/
def noteS (M : List (Int × Int)) (u : UseD) : Int × List (Int × Int) :=
  if u.bad then (1, M) else (0, putK M u.job (addS ((findK M u.job).getD 0) (ofS u).1))

set_option maxHeartbeats 400000 in
theorem note23_nil (u : UseD) (w : World) : Calls Try.prog 23 #[.pointer none, u.val] w fun e w' => e = .returned (.int .i64 1) ∧ Fr (fun _ => False) w w' := by
  obtain ⟨job, cores, frm, til⟩ := u
  simp only [UseD.val, UseD.cells]
  go_enter Try.func23, Try.ntmps23
  go_wp2
  go_ret
  exact ⟨rfl, (Fr.refl _ w).alloc _⟩

set_option maxHeartbeats 1000000 in
theorem note23_any (w : World) (b m : Nat) (M : List (Int × Int)) (h : BookAt w b m M) (hl : M.length < 1000000) (u : UseD) (hu : u.wf) :
    Calls Try.prog 23 #[.pointer (some ⟨b, 0, none⟩), u.val] w fun e w' => e = .returned (.int .i64 (noteS M u).1) ∧ BookAt w' b m (noteS M u).2 ∧ Fr (fun k => k = m) w w' := by
  have h14 := fun W => of14_any u hu W
  have F1 := (Fr.refl (fun _ => False) w).alloc (.cells u.cells 27)
  have B1 := Blk.new w 27 u.cells
  have ho := timesS_wf u.cores (u.til - u.frm)
  by_cases hb : u.bad
  · have e1 : noteS M u = (1, M) := if_pos hb
    rw [e1]
    rw [ofS_bad hb] at h14
    obtain ⟨job, cores, frm, til⟩ := u
    simp only [UseD.val, UseD.cells] at *
    have H14 := Lib.hid h14
    have HF := Lib.hid F1
    have HH := Lib.hid h
    clear h14 F1 B1 h
    go_enter Try.func23, Try.ntmps23
    go_wp2_with (go_at_call 14; refine (H14.out _).mono ?_; rintro e w1 ⟨rfl, hf1⟩)
    go_ret
    exact ⟨rfl, (HH.out.fr HF.out (fun h => h) (fun h => h)).fr hf1 (fun h => h) (fun h => h), (HF.out.then hf1).mono (fun _ _ h => h.elim)⟩
  · have e1 : noteS M u = (0, putK M u.job (addS ((findK M u.job).getD 0) (ofS u).1)) := if_neg hb
    rw [e1]
    have hj := hu.job
    have hfw := findK_wf h.wf u.job
    rw [ofS_ok hb] at h14 ⊢
    simp only at h14 ⊢
    have hs := addS_wf ((findK M u.job).getD 0) (timesS u.cores (u.til - u.frm))
    have h17 := fun W => add17_any ((findK M u.job).getD 0) (timesS u.cores (u.til - u.frm)) hfw ho.1 W
    generalize timesS u.cores (u.til - u.frm) = n at *
    generalize hAS : addS ((findK M u.job).getD 0) n = s at *
    have hwf : ∀ p ∈ putK M u.job s, wf64 p.1 ∧ wf64 p.2 := by
      intro p hp
      rcases List.mem_cons.1 hp with rfl | hp
      · exact ⟨hj, hs.1⟩
      · exact h.wf p (List.mem_filter.1 hp).1
    have hlen : (putK M u.job s).length ≤ 1000000 := by
      have := List.length_filter_le (fun p : Int × Int => p.1 != u.job) M
      simp only [putK, List.length_cons]
      omega
    obtain ⟨job, cores, frm, til⟩ := u
    simp only [UseD.val, UseD.cells] at *
    have hlk := fun W (hf : Fr (fun _ => False) w W) => lookM1 (w := W) Try.underlying75 (h.map.fr hf (fun h => h)) hj
    generalize (findK M job).getD 0 = f at *
    have H14 := Lib.hid h14
    have H17 := Lib.hid h17
    have HF := Lib.hid F1
    have HB := Lib.hid B1
    have HH := Lib.hid h
    have HL := Lib.hid hlk
    have HW := Lib.hid hwf
    have HN := Lib.hid hlen
    clear h14 h17 F1 B1 hlk hwf hlen ho hs hAS hb hfw h
    go_enter Try.func23, Try.ntmps23
    go_wp2_with (go_at_call 14; refine (H14.out _).mono ?_; rintro e w1 ⟨rfl, hf1⟩)
    have F2 := HF.out.then hf1
    have HK := HH.out.fr F2 (fun h => h) (fun h => h)
    have BU := HB.out.fr hf1 (fun h => h)
    have q0 : w1.cell? ⟨b, 0, none⟩ = some (.map (some m)) := HK.blk.cell 0
    have q1 : w1.cell? ⟨w.heap.size, 0, none⟩ = some (.int .i64 job) := BU.cell 0
    have l0 := Later.cell q0
    have l1 := Later.cell q1
    have l2 := fun (d : Later w1) => HL.out d.val (F2.then d.fr)
    clear q0 q1
    refine wp_region_later_tail w1 15 (by kernel_rfl) (by kernel_rfl) (Fr.refl _ _) ?_
    simp only [List.take_succ_cons, List.take_zero, List.drop_succ_cons, List.drop_zero]
    repeat (go_big_quiet_step ((go_at_call 17; exact later_call ((H17.out _).mono fun _ _ ⟨he, hw⟩ => ⟨he, hw ▸ Fr.refl _ _⟩))))
    refine wpQuiet_nil ?_
    rintro _ ⟨d, rfl⟩
    have HM := Lib.hid (HK.map.fr d.fr (fun h => h))
    have hML := HK.len
    clear l0 l1 l2
    go_wp2_with (at_mapUpdate; refine wpList_mapStore rfl _ _ _ 75 rfl 3 law3 Try.underlying75 rfl HM.out (by rw [List.length_map]; unfold maxLen; omega) (.int .i64 job) (.int .i64 s) (.int .i64 job) rfl rfl (key3 hj) ?_; intro w2 hm2 hg2)
    go_ret
    refine ⟨rfl, ⟨(HK.blk.fr d.fr (fun h => h)).grown hg2 (fun e => HK.map.ne_blk HK.blk (Option.some.inj e).symm), by rw [putK_map] at hm2; exact hm2, HW.out, HN.out⟩, ?_⟩
    exact ((F2.then d.fr).mono (S' := fun k => k = m) (fun _ _ h => h.elim)).then (Fr.of_grown hg2 fun k e => (Option.some.inj e).symm)

end Go.Proofs.Ytomoomopodihhaa
