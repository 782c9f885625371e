/-
  The table: find.
-/
import Derived.Test.YtomoomopodihhaaPd
namespace Go.Proofs.Ytomoomopodihhaa
open Go.RowKit Go.Maps

set_option maxHeartbeats 400000 in
theorem is59_any (st : Int) (w : World) : Calls Try.prog 59 #[.int .i64 st] w fun e w' => e = .returned (.func (.func 70) #[] #[.pointer (some ⟨w.heap.size, 0, none⟩)]) ∧ w' = w.alloc (.cells #[.int .i64 st] 3) := by
  go_enter Try.func59, Try.ntmps59
  go_wp2
  go_ret
  exact ⟨rfl, rfl⟩

theorem is70_any (w : World) (c : Nat) (st s : Int) (h : w.cell? ⟨c, 0, none⟩ = some (.int .i64 st)) : Calls Try.prog 70 #[.int .i64 s, .pointer (some ⟨c, 0, none⟩)] w fun e w' => e = .returned (.bool (s == st)) ∧ w = w' := by
  go_enter Try.func70, Try.ntmps70
  go_wp2
  go_ret
  exact ⟨rfl, rfl⟩
theorem not60_any (w : World) (s : Int) : Calls Try.prog 60 #[.int .i64 s] w fun e w' => e = .returned (.bool (s != 2)) ∧ w = w' := by
  go_enter Try.func60, Try.ntmps60
  go_wp2
  go_ret
  exact ⟨rfl, rfl⟩

/-- What 'find' tells. -/
def FindPost (M : List ProcE) (pid : Int) (p : Int → Bool) (w : World) (e : Ending) (w' : World) : Prop :=
  w = w' ∧ (((∀ x ∈ M, x.t.pid ≠ pid) ∧ e = .returned (.tuple #[.pointer none, .int .i64 1])) ∨
    ∃ x ∈ M, x.t.pid = pid ∧ ((p x.t.state = true ∧ e = .returned (.tuple #[.pointer (some ⟨x.blk, 0, none⟩), .int .i64 0])) ∨ (p x.t.state = false ∧ e = .returned (.tuple #[.pointer none, .int .i64 14]))))

set_option maxRecDepth 20000 in
set_option maxHeartbeats 1000000 in
theorem find58_is (w : World) (t m : Nat) (M : List ProcE) (last : Int) (h : TabAt w t m M last) (pid : Int) (hid : wf64 pid) (c : Nat) (st : Int) (hc : w.cell? ⟨c, 0, none⟩ = some (.int .i64 st)) :
    Calls Try.prog 58 #[.pointer (some ⟨t, 0, none⟩), .int .i64 pid, .func (.func 70) #[] #[.pointer (some ⟨c, 0, none⟩)]] w (FindPost M pid (fun s => s == st) w) := by
  have c0 := h.c0
  rcases h.look hid false with ⟨e, he, e1, h2⟩ | ⟨h1, h2⟩
  · have hb := h.ent e he
    simp only [Bool.false_eq_true, if_false] at h2
    have b6 : w.cell? ⟨e.blk, 6, none⟩ = some (.int .i64 e.t.state) := hb.cell 6
    have H70 := Lib.hid (is70_any w c st e.t.state hc)
    cases hs : (e.t.state == st) with
    | true =>
      rw [hs] at H70
      have HR := Lib.hid (show FindPost M pid (fun s => s == st) w (.returned (.tuple #[.pointer (some ⟨e.blk, 0, none⟩), .int .i64 0])) w from ⟨rfl, Or.inr ⟨e, he, e1, Or.inl ⟨hs, rfl⟩⟩⟩)
      clear h hb he hs e1
      go_enter Try.func58, Try.ntmps58
      go_wp2_with fail
      refine H70.out.mono ?_
      rintro e3 w1 ⟨rfl, rfl⟩
      go_wp2
      go_ret2
      exact HR.out
    | false =>
      rw [hs] at H70
      have HR := Lib.hid (show FindPost M pid (fun s => s == st) w (.returned (.tuple #[.pointer none, .int .i64 14])) w from ⟨rfl, Or.inr ⟨e, he, e1, Or.inr ⟨hs, rfl⟩⟩⟩)
      clear h hb he hs e1
      go_enter Try.func58, Try.ntmps58
      go_wp2_with fail
      refine H70.out.mono ?_
      rintro e3 w1 ⟨rfl, rfl⟩
      go_wp2
      go_ret2
      exact HR.out
  · have HR := Lib.hid (show FindPost M pid (fun s => s == st) w (.returned (.tuple #[.pointer none, .int .i64 1])) w from ⟨rfl, Or.inl ⟨h1, rfl⟩⟩)
    simp only [Bool.false_eq_true, if_false] at h2
    clear h h1
    go_enter Try.func58, Try.ntmps58
    go_wp2
    go_ret2
    exact HR.out

set_option maxRecDepth 20000 in
set_option maxHeartbeats 1000000 in
theorem find58_not (w : World) (t m : Nat) (M : List ProcE) (last : Int) (h : TabAt w t m M last) (pid : Int) (hid : wf64 pid) :
    Calls Try.prog 58 #[.pointer (some ⟨t, 0, none⟩), .int .i64 pid, .func (.func 60) #[] #[]] w (FindPost M pid (fun s => s != 2) w) := by
  have c0 := h.c0
  rcases h.look hid false with ⟨e, he, e1, h2⟩ | ⟨h1, h2⟩
  · have hb := h.ent e he
    simp only [Bool.false_eq_true, if_false] at h2
    have b6 : w.cell? ⟨e.blk, 6, none⟩ = some (.int .i64 e.t.state) := hb.cell 6
    have H60 := Lib.hid (not60_any w e.t.state)
    cases hs : (e.t.state != 2) with
    | true =>
      rw [hs] at H60
      have HR := Lib.hid (show FindPost M pid (fun s => s != 2) w (.returned (.tuple #[.pointer (some ⟨e.blk, 0, none⟩), .int .i64 0])) w from ⟨rfl, Or.inr ⟨e, he, e1, Or.inl ⟨hs, rfl⟩⟩⟩)
      clear h hb he hs e1
      go_enter Try.func58, Try.ntmps58
      go_wp2_with fail
      refine H60.out.mono ?_
      rintro e3 w1 ⟨rfl, rfl⟩
      go_wp2
      go_ret2
      exact HR.out
    | false =>
      rw [hs] at H60
      have HR := Lib.hid (show FindPost M pid (fun s => s != 2) w (.returned (.tuple #[.pointer none, .int .i64 14])) w from ⟨rfl, Or.inr ⟨e, he, e1, Or.inr ⟨hs, rfl⟩⟩⟩)
      clear h hb he hs e1
      go_enter Try.func58, Try.ntmps58
      go_wp2_with fail
      refine H60.out.mono ?_
      rintro e3 w1 ⟨rfl, rfl⟩
      go_wp2
      go_ret2
      exact HR.out
  · have HR := Lib.hid (show FindPost M pid (fun s => s != 2) w (.returned (.tuple #[.pointer none, .int .i64 1])) w from ⟨rfl, Or.inl ⟨h1, rfl⟩⟩)
    simp only [Bool.false_eq_true, if_false] at h2
    clear h h1
    go_enter Try.func58, Try.ntmps58
    go_wp2
    go_ret2
    exact HR.out

end Go.Proofs.Ytomoomopodihhaa
