/-
  The statements' own look at some answers of the document: it answers true.
-/
import Derived.Test.YtclokfjcjpigpaaG
namespace Go.Proofs.Ytclokfjcjpigpaa
open Go.RowKit Go.Maps

/-- What lies in memory while 'live' runs. -/
structure LEnv (w0 W : World) (b m1 m2 nb : Nat) (xs yu : Int) (U : List (PKey × Int)) (K : List (Int × Int)) : Prop where
  cache : CacheAt W b m1 m2 1 U K
  nodes : Blk W nb 3 #[.int .i64 0]
  x : Blk W (nb + 1) 31 #[.int .i64 1, .int .i64 0, .int .i64 0, .int .i64 0, .int .i64 10, .slice (some ⟨nb, 0, none⟩) 1 1, .int .i64 1]
  y : Blk W (nb + 2) 31 #[.int .i64 1, .int .i64 0, .int .i64 xs, .int .i64 0, .int .i64 yu, .slice (some ⟨nb, 0, none⟩) 1 1, .int .i64 1]
  h0 : w0.heap.size ≤ b ∧ w0.heap.size ≤ m1 ∧ w0.heap.size ≤ m2
  h1 : b < nb ∧ m1 < nb ∧ m2 < nb
  fr : Below w0.heap.size w0 W

section
variable {w0 W W' : World} {b m1 m2 nb : Nat} {xs yu : Int} {U U' : List (PKey × Int)} {K K' : List (Int × Int)}
theorem LEnv.next (h : LEnv w0 W b m1 m2 nb xs yu U K) (hf : Fr (fun _ => False) W W') : LEnv w0 W' b m1 m2 nb xs yu U K where
  cache := h.cache.fr hf (fun h => h) (fun h => h) (fun h => h)
  nodes := h.nodes.fr hf (fun h => h)
  x := h.x.fr hf (fun h => h)
  y := h.y.fr hf (fun h => h)
  h0 := h.h0
  h1 := h.h1
  fr := h.fr.trans (hf.below h.fr.size (fun _ h => h.elim))
theorem LEnv.use (h : LEnv w0 W b m1 m2 nb xs yu U K) (hc : CacheAt W' b m1 m2 1 U' K) (hf : Fr (fun k => k = m1) W W') : LEnv w0 W' b m1 m2 nb xs yu U' K where
  cache := hc
  nodes := h.nodes.fr hf (fun e => by have := h.h1; omega)
  x := h.x.fr hf (fun e => by have := h.h1; omega)
  y := h.y.fr hf (fun e => by have := h.h1; omega)
  h0 := h.h0
  h1 := h.h1
  fr := h.fr.trans (hf.below h.fr.size (fun _ e => by have := h.h0; omega))
theorem LEnv.revoke (h : LEnv w0 W b m1 m2 nb xs yu U K) (hc : CacheAt W' b m1 m2 1 U K') (hf : Fr (fun k => k = m2) W W') : LEnv w0 W' b m1 m2 nb xs yu U K' where
  cache := hc
  nodes := h.nodes.fr hf (fun e => by have := h.h1; omega)
  x := h.x.fr hf (fun e => by have := h.h1; omega)
  y := h.y.fr hf (fun e => by have := h.h1; omega)
  h0 := h.h0
  h1 := h.h1
  fr := h.fr.trans (hf.below h.fr.size (fun _ e => by have := h.h0; omega))
theorem LEnv.setY (h : LEnv w0 W b m1 m2 nb xs yu U K) (u : Int) : LEnv w0 (W.setCell ⟨nb + 2, 4, none⟩ (.int .i64 u)) b m1 m2 nb xs u U K where
  cache := ⟨h.cache.blk.far (by have := h.h1; simp; omega) _, h.cache.until_.setCell (by have := h.h1; simp; omega) _, h.cache.back.setCell (by have := h.h1; simp; omega) _, h.cache.ne, h.cache.wfU, h.cache.wfK, h.cache.lenU, h.cache.le64, h.cache.lenK⟩
  nodes := h.nodes.far (by simp) _
  x := h.x.far (by simp) _
  y := h.y.set_ 4 _
  h0 := h.h0
  h1 := h.h1
  fr := h.fr.setCell (by have := h.h0; have := h.h1; simp; omega) _

theorem LEnv.nums (h : LEnv w0 W b m1 m2 nb xs yu U K) : Nums W W.heap.size (some ⟨nb, 0, none⟩) [0] := by
  intro k hk
  have : k = 0 := by simpa using hk
  subst this
  exact ⟨_, rfl, h.nodes.lt, h.nodes.cell 0⟩

theorem LEnv.use_ (h : LEnv w0 W b m1 m2 nb xs yu U K) (s u now : Int) (hs : wf64 s ∧ wf64 u) (r : Int) (hr : useR 1 U K ⟨1, 0, s, 0, u, some ⟨nb, 0, none⟩, 1, [0], 1⟩ now = (r, U')) :
    Calls Try.prog 18 #[.pointer (some ⟨b, 0, none⟩), .agg #[.int .i64 1, .int .i64 0, .int .i64 s, .int .i64 0, .int .i64 u, .slice (some ⟨nb, 0, none⟩) 1 1, .int .i64 1], .int .i64 now] W fun e W' => e = .returned (.int .i64 r) ∧ LEnv w0 W' b m1 m2 nb xs yu U' K := by
  refine (use18_any W W.heap.size b m1 m2 1 U K h.cache ⟨1, 0, s, 0, u, some ⟨nb, 0, none⟩, 1, [0], 1⟩ ⟨by simp [wf64], by simp [wf64], hs.1, by simp [wf64], hs.2, by simp [wf64]⟩ now h.nums (Nat.le_refl _) (by simp [maxLen])).mono ?_
  rintro e W' ⟨rfl, hc, hf⟩
  rw [hr] at hc
  rw [hr]
  exact ⟨rfl, h.use hc hf⟩
theorem LEnv.used_ (h : LEnv w0 W b m1 m2 nb xs yu U K) (s u now : Int) (hs : wf64 s ∧ wf64 u) (r : Bool) (hr : usedP U (1, 0, s) now = r) :
    Calls Try.prog 14 #[.pointer (some ⟨b, 0, none⟩), .agg #[.int .i64 1, .int .i64 0, .int .i64 s, .int .i64 0, .int .i64 u, .slice (some ⟨nb, 0, none⟩) 1 1, .int .i64 1], .int .i64 now] W fun e W' => e = .returned (.bool r) ∧ LEnv w0 W' b m1 m2 nb xs yu U K := by
  refine (used14_any W b m1 m2 1 U K h.cache ⟨1, 0, s, 0, u, some ⟨nb, 0, none⟩, 1, [0], 1⟩ ⟨by simp [wf64], by simp [wf64], hs.1, by simp [wf64], hs.2, by simp [wf64]⟩ now).mono ?_
  rintro e W' ⟨rfl, hf⟩
  rw [← hr]
  exact ⟨rfl, h.next hf⟩
theorem LEnv.revoked_ (h : LEnv w0 W b m1 m2 nb xs yu U K) (s u : Int) (hs : wf64 s ∧ wf64 u) (r : Bool) (hr : revokedP K ⟨1, 0, s, 0, u, some ⟨nb, 0, none⟩, 1, [0], 1⟩ = r) :
    Calls Try.prog 16 #[.pointer (some ⟨b, 0, none⟩), .agg #[.int .i64 1, .int .i64 0, .int .i64 s, .int .i64 0, .int .i64 u, .slice (some ⟨nb, 0, none⟩) 1 1, .int .i64 1]] W fun e W' => e = .returned (.bool r) ∧ LEnv w0 W' b m1 m2 nb xs yu U K := by
  refine (revoked16_any W b m1 m2 1 U K h.cache ⟨1, 0, s, 0, u, some ⟨nb, 0, none⟩, 1, [0], 1⟩ ⟨by simp [wf64], by simp [wf64], hs.1, by simp [wf64], hs.2, by simp [wf64]⟩).mono ?_
  rintro e W' ⟨rfl, hf⟩
  rw [← hr]
  exact ⟨rfl, h.next hf⟩
end

set_option maxHeartbeats 1000000 in
theorem live_any (w : World) : Calls Try.prog 9 #[] w fun e w' => e = .returned (.bool true) ∧ Below w.heap.size w w' := by
  go_enter Try.func9, Try.ntmps9
  go_wp2_with fail
  refine (new10_yes 1 _ (by omega) (by omega)).mono ?_
  rintro e w1 ⟨rfl, hc1, hf1⟩
  have hz := hf1.size
  have hlt := hc1.blk.lt
  go_wp2_with fail
  have E0 : LEnv w (((w1.alloc (.cells #[.int .i64 0] 3)).alloc (.cells #[.int .i64 1, .int .i64 0, .int .i64 0, .int .i64 0, .int .i64 10, .slice (some ⟨w1.heap.size, 0, none⟩) 1 1, .int .i64 1] 31)).alloc (.cells #[.int .i64 1, .int .i64 0, .int .i64 1, .int .i64 0, .int .i64 10, .slice (some ⟨w1.heap.size, 0, none⟩) 1 1, .int .i64 1] 31)) (w.heap.size + 2) w.heap.size (w.heap.size + 1) w1.heap.size 1 10 [] [] := {
    cache := hc1.fr ((((Fr.refl (fun _ => False) w1).alloc _).alloc _).alloc _) (fun h => h) (fun h => h) (fun h => h)
    nodes := ((Blk.new w1 3 _).alloc _).alloc _
    x := by simpa using (Blk.new (w1.alloc (.cells #[.int .i64 0] 3)) 31 #[.int .i64 1, .int .i64 0, .int .i64 0, .int .i64 0, .int .i64 10, .slice (some ⟨w1.heap.size, 0, none⟩) 1 1, .int .i64 1]).alloc _
    y := by simpa using Blk.new ((w1.alloc (.cells #[.int .i64 0] 3)).alloc (.cells #[.int .i64 1, .int .i64 0, .int .i64 0, .int .i64 0, .int .i64 10, .slice (some ⟨w1.heap.size, 0, none⟩) 1 1, .int .i64 1] 31)) 31 _
    h0 := by omega
    h1 := by omega
    fr := (((hf1.below (Nat.le_refl _) (fun _ h => h.elim)).alloc hz _).alloc (by simp; omega) _).alloc (by simp; omega) _ }
  refine (E0.use_ 0 10 3 (by simp [wf64]) (U' := [((1, 0, 0), 10)]) 0 (by rfl)).mono ?_
  rintro e w2 ⟨rfl, E2⟩
  clear E0 hc1 hf1
  have x2 := fun i => E2.x.cell i
  go_wp2_with fail
  refine (E2.use_ 0 10 3 (by simp [wf64]) (U' := [((1, 0, 0), 10)]) 10 (by rfl)).mono ?_
  rintro e w3 ⟨rfl, E3⟩
  clear x2
  have y3 := fun i => E3.y.cell i
  go_wp2_with fail
  refine (E3.use_ 1 10 3 (by simp [wf64]) (U' := [((1, 0, 0), 10)]) 6 (by rfl)).mono ?_
  rintro e w4 ⟨rfl, E4⟩
  clear y3
  have x4 := fun i => E4.x.cell i
  go_wp2_with fail
  refine (E4.used_ 0 10 9 (by simp [wf64]) true (by decide)).mono ?_
  rintro e w5 ⟨rfl, E5⟩
  clear x4
  have x5 := fun i => E5.x.cell i
  go_wp2_with fail
  refine (E5.used_ 0 10 10 (by simp [wf64]) false (by decide)).mono ?_
  rintro e w6 ⟨rfl, E6⟩
  clear x5
  have y6 := fun i => E6.y.cell i
  have y6f := fun i => E6.y.frozen i
  have E7 := E6.setY 20
  have y7 := fun i => E7.y.cell i
  go_wp2_with fail
  refine (E7.use_ 1 20 10 (by simp [wf64]) (U' := [((1, 0, 1), 20)]) 0 (by rfl)).mono ?_
  rintro e w8 ⟨rfl, E8⟩
  clear y6 y6f y7
  go_wp2_with fail
  refine (revoke19_any _ _ _ _ _ _ _ E8.cache 1 0).mono ?_
  rw [show revokeR [] 1 0 = (0, [(1, 0)]) by decide]
  rintro e w9 ⟨rfl, hc9, hf9⟩
  have E9 := E8.revoke hc9 hf9
  have y9 := fun i => E9.y.cell i
  go_wp2_with fail
  refine (len13_any _ _ _ _ _ _ _ E9.cache).mono ?_
  rintro e w9' ⟨rfl, rfl⟩
  go_wp2_with fail
  refine (E9.revoked_ 1 20 (by simp [wf64]) true (by rfl)).mono ?_
  rintro e w10 ⟨rfl, E10⟩
  clear y9
  have y10 := fun i => E10.y.cell i
  go_wp2_with fail
  refine (E10.use_ 1 20 10 (by simp [wf64]) (U' := [((1, 0, 1), 20)]) 11 (by rfl)).mono ?_
  rintro e w11 ⟨rfl, E11⟩
  clear y10
  have x11 := fun i => E11.x.cell i
  go_wp2_with fail
  refine (E11.use_ 0 10 10 (by simp [wf64]) (U' := [((1, 0, 1), 20)]) 8 (by rfl)).mono ?_
  rintro e w12 ⟨rfl, E12⟩
  clear x11
  go_wp2_with fail
  refine (new10_no 0 _ (by omega)).mono ?_
  rintro e w13 ⟨rfl, rfl⟩
  go_wp2
  go_ret
  exact ⟨rfl, E12.fr⟩

end Go.Proofs.Ytclokfjcjpigpaa
