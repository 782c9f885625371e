/-
  The statements' own look at some answers of the document: it answers true.
-/
import Derived.Test.YtomoomopodihhaaS
namespace Go.Proofs.Ytomoomopodihhaa
open Go.RowKit Go.Maps Go.Sort Go.Shelf

/-- What lies in memory while 'live' runs. -/
structure LEnv (w0 W : World) (b m : Nat) (M : List (Int × Int)) : Prop where
  book : BookAt W b m M
  h0 : w0.heap.size ≤ b ∧ w0.heap.size ≤ m
  fr : Fr (fun _ => False) w0 W

section
variable {w0 W W' : World} {b m : Nat} {M M' : List (Int × Int)}
theorem LEnv.next (h : LEnv w0 W b m M) (hf : Fr (fun _ => False) W W') : LEnv w0 W' b m M where
  book := h.book.fr hf (fun h => h) (fun h => h)
  h0 := h.h0
  fr := h.fr.then hf
theorem LEnv.note (h : LEnv w0 W b m M) (hc : BookAt W' b m M') (hf : Fr (fun k => k = m) W W') : LEnv w0 W' b m M' where
  book := hc
  h0 := h.h0
  fr := h.fr.trans (S' := fun k => k = m) hf (fun i hi e => by have := h.h0; omega)

theorem LEnv.note_ (h : LEnv w0 W b m M) (hl : M.length < 1000000) (u : UseD) (hu : u.wf) (r : Int) (hr : noteS M u = (r, M')) :
    Calls Try.prog 23 #[.pointer (some ⟨b, 0, none⟩), u.val] W fun e W' => e = .returned (.int .i64 r) ∧ LEnv w0 W' b m M' := by
  refine (note23_any W b m M h.book hl u hu).mono ?_
  rintro e W' ⟨rfl, hc, hf⟩
  rw [hr] at hc
  rw [hr]
  exact ⟨rfl, h.note hc hf⟩
theorem LEnv.all_ (h : LEnv w0 W b m M) (r : Int) (hr : allS (rowsS M) = r) :
    Calls Try.prog 27 #[.pointer (some ⟨b, 0, none⟩)] W fun e W' => e = .returned (.int .i64 r) ∧ LEnv w0 W' b m M := by
  refine (all27_any W b m M h.book).mono ?_
  rintro e W' ⟨rfl, hf⟩
  rw [hr]
  exact ⟨rfl, h.next hf⟩
theorem LEnv.jobs_ (h : LEnv w0 W b m M) (r : List Int) (hr : jobsS M = r) :
    Calls Try.prog 30 #[.pointer (some ⟨b, 0, none⟩)] W fun e W' => ∃ v, e = .returned v ∧ IntsAt W' v r ∧ LEnv w0 W' b m M := by
  refine (jobs30_s W b m M h.book).mono ?_
  rintro e W' ⟨v, rfl, hv, hf⟩
  rw [hr] at hv
  exact ⟨v, rfl, ownsRow_base_a' hv (Nat.zero_le _), h.next hf⟩
end

theorem Acct.m0 : noteS [] ⟨5, 4, 3, 10⟩ = (0, [(5, 28)]) := by decide
theorem Acct.m1 : noteS [(5, 28)] ⟨2, 1, 1, 1⟩ = (0, [(2, 0), (5, 28)]) := by decide
theorem Acct.m2 : noteS [(2, 0), (5, 28)] ⟨5, 1, 2, 1⟩ = (1, [(2, 0), (5, 28)]) := by decide
theorem Acct.m3 : noteS [(2, 0), (5, 28)] ⟨5, 9223372036854775807, 0, 2⟩ = (0, [(5, 9223372036854775807), (2, 0)]) := by decide
theorem Acct.j1 : jobsS [(2, 0), (5, 28)] = [2, 5] := by simp [jobsS, List.mergeSort, List.merge, List.MergeSort.Internal.splitInTwo]
theorem Acct.j2 : jobsS [(5, 9223372036854775807), (2, 0)] = [2, 5] := by simp [jobsS, List.mergeSort, List.merge, List.MergeSort.Internal.splitInTwo]
theorem Acct.a1 : allS (rowsS [(2, 0), (5, 28)]) = 28 := by rw [rowsS, Acct.j1]; decide
theorem Acct.a2 : allS (rowsS [(5, 9223372036854775807), (2, 0)]) = 9223372036854775807 := by rw [rowsS, Acct.j2]; decide

theorem ints_lit (W : World) (L : List Int) (hL : L.length ≤ maxLen) : IntsAt (W.alloc (.cells (L.map encZ).toArray 3)) (.slice (some ⟨W.heap.size, 0, none⟩) L.length L.length) L := by
  refine ⟨by simp, Or.inr ⟨_, _, (L.map encZ).toArray, rfl, Nat.zero_le _, heap_alloc_new W _, Nat.le_refl _, hL, by simp, ?_⟩⟩
  rw [List.take_of_length_le (by simp)]

end Go.Proofs.Ytomoomopodihhaa
