/-
  'live', walked.
-/
import Derived.Test.YtomoomopodihhaaT
namespace Go.Proofs.Ytomoomopodihhaa
open Go.RowKit Go.Maps Go.Sort Go.Shelf

set_option maxHeartbeats 2000000 in
theorem live_any (w : World) : Calls Try.prog 21 #[] w fun e w' => e = .returned (.bool true) ∧ Fr (fun _ => False) w w' := by
  have v1 := fun W => add17_any 9223372036854775807 1 (by simp [wf64]) (by simp [wf64]) W
  have v2 := fun W => add17_any (-5) 3 (by simp [wf64]) (by simp [wf64]) W
  have v3 := fun W => times19_any 4611686018427387904 2 (by simp [wf64]) (by simp [wf64]) W
  have v4 := fun W => times19_any 0 9223372036854775807 (by simp [wf64]) (by simp [wf64]) W
  have v5 := fun W => times19_any 3 (-1) (by simp [wf64]) (by simp [wf64]) W
  rw [show addS 9223372036854775807 1 = 9223372036854775807 by decide] at v1
  rw [show addS (-5) 3 = 3 by decide] at v2
  rw [show timesS 4611686018427387904 2 = 9223372036854775807 by decide] at v3
  rw [show timesS 0 9223372036854775807 = 0 by decide] at v4
  rw [show timesS 3 (-1) = 0 by decide] at v5
  have V1 := Lib.hid v1
  have V2 := Lib.hid v2
  have V3 := Lib.hid v3
  have V4 := Lib.hid v4
  have V5 := Lib.hid v5
  clear v1 v2 v3 v4 v5
  go_enter Try.func21, Try.ntmps21
  go_wp2_with fail
  refine (new22_any _).mono ?_
  rintro e w1 ⟨rfl, hb1, hf1⟩
  have E1 : LEnv w w1 (w.heap.size + 1) w.heap.size [] := ⟨hb1, by omega, hf1⟩
  clear hb1 hf1
  go_wp2_with fail
  refine (E1.note_ (by simp) ⟨5, 4, 3, 10⟩ ⟨by simp [wf64], by simp [wf64], by simp [wf64], by simp [wf64]⟩ _ Acct.m0).mono ?_
  rintro e w2 ⟨rfl, E2⟩
  clear E1
  go_wp2_with fail
  refine (E2.note_ (by simp) ⟨2, 1, 1, 1⟩ ⟨by simp [wf64], by simp [wf64], by simp [wf64], by simp [wf64]⟩ _ Acct.m1).mono ?_
  rintro e w3 ⟨rfl, E3⟩
  clear E2
  go_wp2_with fail
  refine (E3.note_ (by simp) ⟨5, 1, 2, 1⟩ ⟨by simp [wf64], by simp [wf64], by simp [wf64], by simp [wf64]⟩ _ Acct.m2).mono ?_
  rintro e w4 ⟨rfl, E4⟩
  clear E3
  go_wp2_with fail
  refine (E4.all_ _ Acct.a1).mono ?_
  rintro e w5 ⟨rfl, E5⟩
  clear E4
  go_wp2_with fail
  refine (E5.note_ (by simp) ⟨5, 9223372036854775807, 0, 2⟩ ⟨by simp [wf64], by simp [wf64], by simp [wf64], by simp [wf64]⟩ _ Acct.m3).mono ?_
  rintro e w6 ⟨rfl, E6⟩
  clear E5
  go_wp2_with fail
  refine (V1.out _).mono ?_
  rintro e w' ⟨rfl, rfl⟩
  clear V1
  go_wp2_with fail
  refine (V2.out _).mono ?_
  rintro e w' ⟨rfl, rfl⟩
  clear V2
  go_wp2_with fail
  refine (V3.out _).mono ?_
  rintro e w' ⟨rfl, rfl⟩
  clear V3
  go_wp2_with fail
  refine (V4.out _).mono ?_
  rintro e w' ⟨rfl, rfl⟩
  clear V4
  go_wp2_with fail
  refine (V5.out _).mono ?_
  rintro e w' ⟨rfl, rfl⟩
  clear V5
  go_wp2_with fail
  refine (job25_any _ _ _ _ E6.book 5 (by simp [wf64])).mono ?_
  rintro e w' ⟨rfl, rfl⟩
  go_wp2_with fail
  refine (E6.all_ _ Acct.a2).mono ?_
  rintro e w7 ⟨rfl, E7⟩
  clear E6
  go_wp2_with fail
  refine (E7.jobs_ _ Acct.j2).mono ?_
  rintro e w8 ⟨v, rfl, hv, E8⟩
  clear E7
  have hl := ints_lit w8 [2, 5] (by simp [maxLen])
  have hv2 := hv.fr0 ((Fr.refl _ w8).alloc (.cells (List.map encZ [2, 5]).toArray 3))
  go_wp2_with fail
  refine (same29_any _ v _ [2, 5] [2, 5] hv2 hl (by simp) (by simp) true rfl).mono ?_
  rintro e w9 ⟨rfl, hf⟩
  go_wp2_with fail
  go_ret
  exact ⟨rfl, (E8.fr.alloc _).then hf⟩

end Go.Proofs.Ytomoomopodihhaa
