/-
  acct.Of of both, 'own'; the program's book: New, Note, Job.
-/
import Derived.Test.YtomoomopodihhaaA
import Derived.Test.YtomoomopodihhaaMem
import Derived.Test.YtomoomopodihhaaLater
namespace Go.Proofs.Ytomoomopodihhaa
open Go.RowKit Go.Maps

structure UseD where
  job : Int
  cores : Int
  frm : Int
  til : Int

def UseD.cells (u : UseD) : Array Value := #[.int .i64 u.job, .int .i64 u.cores, .int .i64 u.frm, .int .i64 u.til]
def UseD.val (u : UseD) : Value := .agg u.cells
structure UseD.wf (u : UseD) : Prop where
  job : wf64 u.job
  cores : wf64 u.cores
  frm : wf64 u.frm
  til : wf64 u.til

def UseD.bad (u : UseD) : Prop := u.job < 0 ∨ 1099511627776 < u.job ∨ u.cores < 0 ∨ u.frm < 0 ∨ u.til < u.frm
instance (u : UseD) : Decidable u.bad := by unfold UseD.bad; exact inferInstance

/-- What a use comes to, and whether it is one. -/
def ofS (u : UseD) : Int × Int := if u.bad then (0, 1) else (timesS u.cores (u.til - u.frm), 0)

theorem ofS_bad {u : UseD} (h : u.bad) : ofS u = (0, 1) := if_pos h
theorem ofS_ok {u : UseD} (h : ¬ u.bad) : ofS u = (timesS u.cores (u.til - u.frm), 0) := if_neg h

theorem timesS_wf (a b : Int) : wf64 (timesS a b) ∧ 0 ≤ timesS a b := by
  have h : 0 ≤ max a 0 * max b 0 := Int.mul_nonneg (by omega) (by omega)
  unfold timesS wf64
  generalize max a 0 * max b 0 = m at *
  omega

theorem addS_wf (a b : Int) : wf64 (addS a b) ∧ 0 ≤ addS a b := by
  unfold addS wf64
  omega

theorem results_cell1 {fn : Func} {p : Tmp} {ty : TypeId} (h : fn.results = #[.cell p ty]) (tmps : Array Value) (P : Program) (w : World) :
    (results fn tmps).run P w = ((asAddr (tmps.getD p undef)).run P w).andThen fun a w₁ => (loadVar ty a).run P w₁ := by
  simp only [results, h]
  simp [Sem.run_bind, Result.andThen]

set_option maxHeartbeats 1000000 in
theorem own15_any (u : UseD) (w : World) : Calls Try.prog 15 #[u.val] w fun e w' => e = .returned u.val ∧ Fr (fun _ => False) w w' := by
  obtain ⟨job, cores, frm, til⟩ := u
  simp only [UseD.val, UseD.cells]
  go_enter Try.func15, Try.ntmps15
  go_wp2
  (try simp only [Exit.inBlock, Exit.then])
  refine bodyPost_ret (v := .agg #[.int .i64 job, .int .i64 cores, .int .i64 frm, .int .i64 til]) ?_ rfl ⟨rfl, ((Fr.refl _ w).alloc _).alloc _⟩
  rw [results_cell1 rfl]
  go_simp

set_option maxHeartbeats 1000000 in
theorem of14_any (u : UseD) (hu : u.wf) (w : World) : Calls Try.prog 14 #[u.val] w fun e w' => e = .returned (.tuple #[.int .i64 (ofS u).1, .int .i64 (ofS u).2]) ∧ Fr (fun _ => False) w w' := by
  by_cases hb : u.bad
  · rw [ofS_bad hb]
    obtain ⟨job, cores, frm, til⟩ := u
    obtain ⟨⟨j1, j2⟩, hc, ⟨f1, f2⟩, ⟨t1, t2⟩⟩ := hu
    simp only [UseD.val, UseD.cells, UseD.bad] at *
    go_enter Try.func14, Try.ntmps14
    go_wp2
    all_goals first
      | (go_ret2; exact ⟨rfl, (Fr.refl _ w).alloc _⟩)
      | (exfalso; omega)
  · rw [ofS_ok hb]
    obtain ⟨job, cores, frm, til⟩ := u
    obtain ⟨⟨j1, j2⟩, hc, ⟨f1, f2⟩, ⟨t1, t2⟩⟩ := hu
    simp only [UseD.val, UseD.cells, UseD.bad] at *
    have h19 := fun W => times19_any cores (til - frm) hc ⟨by omega, by omega⟩ W
    have H19 := Lib.hid h19
    clear h19 hc
    go_enter Try.func14, Try.ntmps14
    go_wp2_with (go_at_call 19; refine (H19.out _).mono ?_; rintro e w1 ⟨rfl, rfl⟩)
    all_goals first
      | (go_ret2; exact ⟨rfl, (Fr.refl _ w).alloc _⟩)
      | (exfalso; omega)

set_option maxHeartbeats 1000000 in
theorem of16_any (u : UseD) (hu : u.wf) (w : World) : Calls Try.prog 16 #[u.val] w fun e w' => e = .returned (.tuple #[.int .i64 (ofS u).1, .int .i64 (ofS u).2]) ∧ Fr (fun _ => False) w w' := by
  by_cases hb : u.bad
  · rw [ofS_bad hb]
    obtain ⟨job, cores, frm, til⟩ := u
    obtain ⟨⟨j1, j2⟩, hc, ⟨f1, f2⟩, ⟨t1, t2⟩⟩ := hu
    simp only [UseD.val, UseD.cells, UseD.bad] at *
    go_enter Try.func16, Try.ntmps16
    go_wp2
    all_goals first
      | (go_ret2; exact ⟨rfl, (Fr.refl _ w).alloc _⟩)
      | (exfalso; omega)
  · rw [ofS_ok hb]
    obtain ⟨job, cores, frm, til⟩ := u
    obtain ⟨⟨j1, j2⟩, hc, ⟨f1, f2⟩, ⟨t1, t2⟩⟩ := hu
    simp only [UseD.val, UseD.cells, UseD.bad] at *
    have h20 := fun W => times20_any cores (til - frm) hc ⟨by omega, by omega⟩ W
    have H20 := Lib.hid h20
    clear h20 hc
    go_enter Try.func16, Try.ntmps16
    go_wp2_with (go_at_call 20; refine (H20.out _).mono ?_; rintro e w1 ⟨rfl, rfl⟩)
    all_goals first
      | (go_ret2; exact ⟨rfl, (Fr.refl _ w).alloc _⟩)
      | (exfalso; omega)

end Go.Proofs.Ytomoomopodihhaa
