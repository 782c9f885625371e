/-
  The shelf's slices.Sorted(maps.Keys(m)) at this dump.
-/
import Derived.Test.YtomoomopodihhaaPh
import Derived.Shelf.SlIterI.Nil
import Derived.Shelf.SortM.Plain
import Derived.Shelf.SortM.SortNone
namespace Go.Proofs.Ytomoomopodihhaa
open Go.RowKit Go.Maps Go.Sort Go.Shelf

def Try.keysJ_ren : Go.Shelf.Ren := ⟨fun | 7 => 55 | 10 => 67 | n => n, fun | 23 => 86 | 26 => 3 | 3 => 90 | 28 => 84 | 0 => 0 | 27 => 83 | 33 => 97 | 4 => 4 | n => n, fun | n => n⟩
theorem Try.keysJ : Go.Proofs.SlLaysZI.n7 Try.prog Try.keysJ_ren := {
  mixed := by kernel_rfl,
  f7 := ⟨Try.f55.name, by decide, Try.func55.trans (congrArg some (by kernel_rfl))⟩,
  f10 := ⟨Try.f67.name, by decide, Try.func67.trans (congrArg some (by kernel_rfl))⟩,
  t0 := Try.underlying0,
  a0 := Try.isAgg0,
  z0 := Try.sizeOf0,
  v0 := Try.zeroValue0,
  t4 := Try.underlying4,
  a4 := Try.isAgg4,
  z4 := Try.sizeOf4,
  v4 := Try.zeroValue4,
  t23 := Try.underlying86,
  a23 := Try.isAgg86,
  z23 := Try.sizeOf86,
  v23 := Try.zeroValue86,
  t26 := Try.underlying3,
  a26 := Try.isAgg3,
  z26 := Try.sizeOf3,
  v26 := Try.zeroValue3,
  t27 := Try.underlying83,
  a27 := Try.isAgg83,
  z27 := Try.sizeOf83,
  v27 := Try.zeroValue83,
  t28 := Try.underlying84,
  a28 := Try.isAgg84,
  z28 := Try.sizeOf84,
  v28 := Try.zeroValue84,
  t33 := Try.underlying97,
  a33 := Try.isAgg97,
  z33 := Try.sizeOf97,
  v33 := Try.zeroValue97 }

def Try.sortedJ_ren : Go.Shelf.Ren := ⟨fun | 6 => 48 | 8 => 62 | 9 => 63 | 11 => 71 | 13 => 73 | 12 => 72 | 23 => 88 | 24 => 89 | 14 => 79 | 15 => 80 | 16 => 81 | 17 => 82 | 18 => 83 | 19 => 84 | 20 => 85 | 21 => 86 | 22 => 87 | 25 => 92 | 26 => 93 | 27 => 94 | 28 => 95 | 29 => 96 | 30 => 97 | 31 => 98 | n => n, fun | 26 => 3 | 28 => 84 | 24 => 45 | 0 => 0 | 3 => 3 | 37 => 109 | 48 => 123 | 50 => 101 | 4 => 4 | 40 => 116 | 39 => 115 | 45 => 120 | 5 => 5 | 9 => 9 | 51 => 127 | 55 => 131 | 57 => 133 | 58 => 134 | 33 => 97 | n => n, fun | n => n⟩
theorem Try.sortedJ : Go.Proofs.SlLaysZI.n6 Try.prog Try.sortedJ_ren := {
  mixed := by kernel_rfl,
  f6 := ⟨Try.f48.name, by decide, Try.func48.trans (congrArg some (by kernel_rfl))⟩,
  f8 := ⟨Try.f62.name, by decide, Try.func62.trans (congrArg some (by kernel_rfl))⟩,
  f11 := ⟨Try.f71.name, by decide, Try.func71.trans (congrArg some (by kernel_rfl))⟩,
  t0 := Try.underlying0,
  a0 := Try.isAgg0,
  z0 := Try.sizeOf0,
  v0 := Try.zeroValue0,
  t24 := Try.underlying45,
  a24 := Try.isAgg45,
  z24 := Try.sizeOf45,
  v24 := Try.zeroValue45,
  t26 := Try.underlying3,
  a26 := Try.isAgg3,
  z26 := Try.sizeOf3,
  v26 := Try.zeroValue3,
  t28 := Try.underlying84,
  a28 := Try.isAgg84,
  z28 := Try.sizeOf84,
  v28 := Try.zeroValue84,
  i26 := by kernel_rfl }

def Try.sortJ_ren : Go.Shelf.Ren := ⟨fun | 5 => 63 | 8 => 73 | 7 => 72 | 19 => 88 | 20 => 89 | 10 => 79 | 11 => 80 | 12 => 81 | 13 => 82 | 14 => 83 | 15 => 84 | 16 => 85 | 17 => 86 | 18 => 87 | 30 => 92 | 31 => 93 | 32 => 94 | 33 => 95 | 34 => 96 | 35 => 97 | 40 => 98 | n => n, fun | 23 => 45 | 25 => 3 | 3 => 3 | 32 => 109 | 22 => 45 | 0 => 0 | 44 => 123 | 46 => 101 | 4 => 4 | 36 => 116 | 35 => 115 | 41 => 120 | 5 => 5 | 9 => 9 | 53 => 127 | 57 => 131 | 63 => 133 | 64 => 134 | n => n, fun | n => n⟩
theorem Try.sortJ : Go.Proofs.SlLaysM.n5 Try.prog Try.sortJ_ren := {
  mixed := by kernel_rfl,
  f5 := ⟨Try.f63.name, by decide, Try.func63.trans (congrArg some (by kernel_rfl))⟩,
  f7 := ⟨Try.f72.name, by decide, Try.func72.trans (congrArg some (by kernel_rfl))⟩,
  f8 := Try.func73.trans (congrArg some (by kernel_rfl)),
  f10 := ⟨Try.f79.name, by decide, Try.func79.trans (congrArg some (by kernel_rfl))⟩,
  f11 := ⟨Try.f80.name, by decide, Try.func80.trans (congrArg some (by kernel_rfl))⟩,
  f12 := ⟨Try.f81.name, by decide, Try.func81.trans (congrArg some (by kernel_rfl))⟩,
  f13 := ⟨Try.f82.name, by decide, Try.func82.trans (congrArg some (by kernel_rfl))⟩,
  f14 := ⟨Try.f83.name, by decide, Try.func83.trans (congrArg some (by kernel_rfl))⟩,
  f15 := ⟨Try.f84.name, by decide, Try.func84.trans (congrArg some (by kernel_rfl))⟩,
  f16 := ⟨Try.f85.name, by decide, Try.func85.trans (congrArg some (by kernel_rfl))⟩,
  f17 := ⟨Try.f86.name, by decide, Try.func86.trans (congrArg some (by kernel_rfl))⟩,
  f18 := ⟨Try.f87.name, by decide, Try.func87.trans (congrArg some (by kernel_rfl))⟩,
  f19 := Try.func88.trans (congrArg some (by kernel_rfl)),
  f20 := Try.func89.trans (congrArg some (by kernel_rfl)),
  f30 := ⟨Try.f92.name, by decide, Try.func92.trans (congrArg some (by kernel_rfl))⟩,
  f31 := Try.func93.trans (congrArg some (by kernel_rfl)),
  f32 := Try.func94.trans (congrArg some (by kernel_rfl)),
  f33 := ⟨Try.f95.name, by decide, Try.func95.trans (congrArg some (by kernel_rfl))⟩,
  f34 := ⟨Try.f96.name, by decide, Try.func96.trans (congrArg some (by kernel_rfl))⟩,
  f35 := ⟨Try.f97.name, by decide, Try.func97.trans (congrArg some (by kernel_rfl))⟩,
  f40 := ⟨Try.f98.name, by decide, Try.func98.trans (congrArg some (by kernel_rfl))⟩,
  t0 := Try.underlying0,
  a0 := Try.isAgg0,
  z0 := Try.sizeOf0,
  v0 := Try.zeroValue0,
  t3 := Try.underlying3,
  a3 := Try.isAgg3,
  z3 := Try.sizeOf3,
  v3 := Try.zeroValue3,
  t4 := Try.underlying4,
  a4 := Try.isAgg4,
  z4 := Try.sizeOf4,
  v4 := Try.zeroValue4,
  t5 := Try.underlying5,
  a5 := Try.isAgg5,
  z5 := Try.sizeOf5,
  v5 := Try.zeroValue5,
  t9 := Try.underlying9,
  a9 := Try.isAgg9,
  z9 := Try.sizeOf9,
  v9 := Try.zeroValue9,
  t22 := Try.underlying45,
  a22 := Try.isAgg45,
  z22 := Try.sizeOf45,
  v22 := Try.zeroValue45,
  t23 := Try.underlying45,
  a23 := Try.isAgg45,
  z23 := Try.sizeOf45,
  v23 := Try.zeroValue45,
  t25 := Try.underlying3,
  a25 := Try.isAgg3,
  z25 := Try.sizeOf3,
  v25 := Try.zeroValue3,
  t32 := Try.underlying109,
  a32 := Try.isAgg109,
  z32 := Try.sizeOf109,
  v32 := Try.zeroValue109,
  t35 := Try.underlying115,
  a35 := Try.isAgg115,
  z35 := Try.sizeOf115,
  v35 := Try.zeroValue115,
  t36 := Try.underlying116,
  a36 := Try.isAgg116,
  z36 := Try.sizeOf116,
  v36 := Try.zeroValue116,
  t41 := Try.underlying120,
  a41 := Try.isAgg120,
  z41 := Try.sizeOf120,
  v41 := Try.zeroValue120,
  t44 := Try.underlying123,
  a44 := Try.isAgg123,
  z44 := Try.sizeOf123,
  v44 := Try.zeroValue123,
  t46 := Try.underlying101,
  a46 := Try.isAgg101,
  z46 := Try.sizeOf101,
  v46 := Try.zeroValue101,
  t53 := Try.underlying127,
  a53 := Try.isAgg127,
  z53 := Try.sizeOf127,
  v53 := Try.zeroValue127,
  t57 := Try.underlying131,
  a57 := Try.isAgg131,
  z57 := Try.sizeOf131,
  v57 := Try.zeroValue131,
  t63 := Try.underlying133,
  a63 := Try.isAgg133,
  z63 := Try.sizeOf133,
  v63 := Try.zeroValue133,
  t64 := Try.underlying134,
  a64 := Try.isAgg134,
  z64 := Try.sizeOf134,
  v64 := Try.zeroValue134 }


theorem sortsJ (m : Nat) : AnyZI.SortsIn Try.prog Try.sortedJ_ren Fence.wide m :=
  ⟨fun blk off cap ss W hH hblk hsz => callsIn_wide.2 (AnyM.slices_Sort_int Try.sortJ blk off cap ss W hH hblk hsz),
   fun p cap W => callsIn_wide.2 (AnyM.slices_Sort_int_none Try.sortJ p cap W)⟩

theorem own_of_map {P : Program} {k : TypeId} {w : World} {b : Nat} {L : List (Lit × Value)} (h : MapL P k w b L) :
    ∃ D0 : DataW Value, w.ownsMap P k rawR b L.length D0 ∧ (intKeys D0).Perm (L.map fun p => Go.intOf p.1) := by
  obtain ⟨es, clock, hb, F, hp⟩ := h
  have e1 : es.size = L.length := by simpa using hp.length_eq
  refine ⟨_, ⟨es, clock, hb, F, Nat.le_of_eq e1, rfl⟩, ?_⟩
  have h1 := ((WideShapes.sorted_perm _).trans hp).map (fun p : Lit × DataW Value => Go.intOf p.1)
  rw [List.map_map] at h1
  exact h1

end Go.Proofs.Ytomoomopodihhaa
