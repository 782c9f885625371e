/-
  A map of owners' holdings as a list.
-/
import Derived.Test.YtcefadbnmpjeiaaMem
import Derived.Test.YtcefadbnmpjeiaaMask
import Derived.DeepKeys4
import Derived.Shelf.SlIterI.Nil
import Derived.Shelf.SortM.Plain
import Derived.Shelf.SortM.SortNone
import Derived.Test.YtcefadbnmpjeiaaCo
import Derived.Test.YtcefadbnmpjeiaaEach
import Derived.Test.YtcefadbnmpjeiaaC
import Derived.StillTail
import Derived.Test.YtcefadbnmpjeiaaLater
import Derived.BigRegion
import Derived.Test.YtcefadbnmpjeiaaRange
import Derived.Test.YtcefadbnmpjeiaaInts
import Derived.Test.YtcefadbnmpjeiaaMs
import Derived.Test.YtcefadbnmpjeiaaAp
import Derived.Test.YtcefadbnmpjeiaaSm
import Derived.Test.YtcefadbnmpjeiaaMid
import Derived.Test.YtcefadbnmpjeiaaMaskEq
namespace Go.Proofs.Ytcefadbnmpjeiaa
open Go.RowKit Go.Maps

theorem wf_lit {n : Int} (h : wf64 n) : (Lit.int .i64 n).wf = true := WalkArith.wf_i64 h
theorem law3 : Keyed Try.prog 3 := int_keyed Try.underlying3
theorem key3 {n : Int} (h : wf64 n) : keyOf Try.prog 3 (.int .i64 n) = some (.int .i64 n) := keyOf_int_mk Try.underlying3 (wf_lit h)

/-- What an owner has: a mask, and whether it is committed. -/
abbrev HoldD := Nat × Bool
def holdV (h : HoldD) : Value := .agg #[.int .u64 (wordM h.1 0 : Nat), .int .u64 (wordM h.1 1 : Nat), .int .u64 (wordM h.1 2 : Nat), .int .u64 (wordM h.1 3 : Nat), .bool h.2]
theorem zero112 (w : World) : (zeroValue 112).run Try.prog w = .ok (holdV (0, false)) w := by kernel_rfl
def hP (p : Int × HoldD) : Lit × Value := (.int .i64 p.1, holdV p.2)

def findH (K : List (Int × HoldD)) (j : Int) : Option HoldD := (K.find? (fun p => p.1 == j)).map (·.2)

theorem findH_some {K : List (Int × HoldD)} {k : Int} {u : HoldD} (h : findH K k = some u) : (k, u) ∈ K := by
  unfold findH at h
  cases hf : K.find? (fun p => p.1 == k) with
  | none => rw [hf] at h; cases h
  | some p =>
    rw [hf] at h
    have h1 := List.mem_of_find?_eq_some hf
    have h2 := List.find?_some hf
    simp only [beq_iff_eq] at h2
    simp only [Option.map_some, Option.some.injEq] at h
    rw [← h2, ← h]
    exact h1
theorem findH_none {K : List (Int × HoldD)} {k : Int} (h : findH K k = none) : ∀ p ∈ K, p.1 ≠ k := by
  intro p hp e
  unfold findH at h
  simp only [Option.map_eq_none_iff, List.find?_eq_none, beq_iff_eq] at h
  exact h p hp e
theorem findH_none' {K : List (Int × HoldD)} {k : Int} (h : findH K k = none) : ∀ p ∈ K.map hP, p.1 ≠ Lit.int .i64 k := by
  intro p hp e
  obtain ⟨q, hq, rfl⟩ := List.mem_map.1 hp
  simp only [hP, Lit.int.injEq, true_and] at e
  exact findH_none h q hq e

theorem look_h {w : World} {m : Nat} {K : List (Int × HoldD)} {t : TypeId} (ht : Try.prog.underlying t = some (.map 3 112)) (h : MapL Try.prog 3 w m (K.map hP)) {k : Int} (hk : wf64 k) (c : Bool) :
    (Instr.lookup t (.map (some m)) (.int .i64 k) c).run Try.prog w = .ok (if c then .tuple #[holdV ((findH K k).getD (0, false)), .bool (findH K k).isSome] else holdV ((findH K k).getD (0, false))) w := by
  cases hf : findH K k with
  | none =>
    rcases h.look law3 ht (zero112 w) (key3 hk) c with ⟨v, h1, h2⟩ | ⟨h1, h2⟩
    · exact absurd rfl (findH_none' hf _ h1)
    · exact h2
  | some u =>
    have hm : (Lit.int .i64 k, holdV u) ∈ K.map hP := List.mem_map.2 ⟨_, findH_some hf, rfl⟩
    rcases h.look law3 ht (zero112 w) (key3 hk) c with ⟨v, h1, h2⟩ | ⟨h1, h2⟩
    · have := apart_uniq (h.apart law3) h1 hm
      subst this
      exact h2
    · exact absurd rfl (h1 _ hm)

theorem same_int (a b : Int) : (Lit.int .i64 a).sameKey (.int .i64 b) = (a == b) := by
  by_cases h : a = b
  · subst h; rw [WideAt.sameKey_self (by simp [WideAt.IsKeyLit])]; simp
  · rw [sameKey_ne (by simpa using h)]; simp [h]

def putH (K : List (Int × HoldD)) (j : Int) (e : HoldD) : List (Int × HoldD) := (j, e) :: K.filter (fun p => p.1 != j)
def delH (K : List (Int × HoldD)) (j : Int) : List (Int × HoldD) := K.filter (fun p => p.1 != j)

theorem delH_map (K : List (Int × HoldD)) (j : Int) : (K.map hP).filter (fun p => !p.1.sameKey (Lit.int .i64 j)) = (delH K j).map hP := by
  unfold delH
  rw [List.filter_map]
  refine congrArg _ ?_
  refine List.filter_congr fun p _ => ?_
  simp [hP, same_int, bne]
theorem putH_map (K : List (Int × HoldD)) (j : Int) (e : HoldD) : (Lit.int .i64 j, holdV e) :: (K.map hP).filter (fun p => !p.1.sameKey (Lit.int .i64 j)) = (putH K j e).map hP := by
  rw [delH_map]
  rfl

theorem findH_put_same (K : List (Int × HoldD)) (j : Int) (e : HoldD) : findH (putH K j e) j = some e := by simp [findH, putH]
theorem findH_del_ne (K : List (Int × HoldD)) {j k : Int} (h : j ≠ k) : findH (delH K j) k = findH K k := by
  unfold findH delH
  congr 1
  induction K with
  | nil => rfl
  | cons p K ih =>
    by_cases hp : p.1 = j
    · rw [List.filter_cons_of_neg (by simp [hp]), ih, List.find?_cons]
      have : (p.1 == k) = false := by simpa [hp] using h
      simp only [this]
    · rw [List.filter_cons_of_pos (by simpa using hp), List.find?_cons, List.find?_cons, ih]
theorem findH_put_ne (K : List (Int × HoldD)) {j k : Int} (e : HoldD) (h : j ≠ k) : findH (putH K j e) k = findH K k := by
  rw [← findH_del_ne K h]
  unfold putH delH findH
  rw [List.find?_cons]
  have hb : (j == k) = false := by simpa using h
  simp only [hb]
theorem findH_del_same (K : List (Int × HoldD)) (j : Int) : findH (delH K j) j = none := by
  unfold findH delH
  simp [List.find?_eq_none]

end Go.Proofs.Ytcefadbnmpjeiaa

/-
  The shelf's slices.Sorted(maps.Keys(m)) at this dump.
-/
namespace Go.Proofs.Ytcefadbnmpjeiaa
open Go.RowKit Go.Maps Go.Sort Go.Shelf

def Try.keysJ_ren : Go.Shelf.Ren := ⟨fun | 7 => 73 | 10 => 86 | n => n, fun | 23 => 104 | 26 => 3 | 3 => 112 | 28 => 91 | 0 => 0 | 27 => 90 | 33 => 97 | 4 => 4 | n => n, fun | n => n⟩
theorem Try.keysJ : Go.Proofs.SlLaysZI.n7 Try.prog Try.keysJ_ren := {
  mixed := by kernel_rfl,
  f7 := ⟨Try.f73.name, by decide, Try.func73.trans (congrArg some (by kernel_rfl))⟩,
  f10 := ⟨Try.f86.name, by decide, Try.func86.trans (congrArg some (by kernel_rfl))⟩,
  t0 := Try.underlying0,
  a0 := Try.isAgg0,
  z0 := Try.sizeOf0,
  v0 := Try.zeroValue0,
  t4 := Try.underlying4,
  a4 := Try.isAgg4,
  z4 := Try.sizeOf4,
  v4 := Try.zeroValue4,
  t23 := Try.underlying104,
  a23 := Try.isAgg104,
  z23 := Try.sizeOf104,
  v23 := Try.zeroValue104,
  t26 := Try.underlying3,
  a26 := Try.isAgg3,
  z26 := Try.sizeOf3,
  v26 := Try.zeroValue3,
  t27 := Try.underlying90,
  a27 := Try.isAgg90,
  z27 := Try.sizeOf90,
  v27 := Try.zeroValue90,
  t28 := Try.underlying91,
  a28 := Try.isAgg91,
  z28 := Try.sizeOf91,
  v28 := Try.zeroValue91,
  t33 := Try.underlying97,
  a33 := Try.isAgg97,
  z33 := Try.sizeOf97,
  v33 := Try.zeroValue97 }

def Try.sortedJ_ren : Go.Shelf.Ren := ⟨fun | 6 => 72 | 8 => 84 | 9 => 85 | 11 => 90 | 13 => 92 | 12 => 91 | 23 => 102 | 24 => 103 | 14 => 93 | 15 => 94 | 16 => 95 | 17 => 96 | 18 => 97 | 19 => 98 | 20 => 99 | 21 => 100 | 22 => 101 | 25 => 104 | 26 => 105 | 27 => 106 | 28 => 107 | 29 => 108 | 30 => 109 | 31 => 110 | n => n, fun | 26 => 3 | 28 => 91 | 24 => 24 | 0 => 0 | 3 => 3 | 37 => 124 | 48 => 135 | 50 => 31 | 4 => 4 | 40 => 127 | 39 => 126 | 45 => 132 | 5 => 5 | 9 => 9 | 51 => 137 | 55 => 141 | 57 => 143 | 58 => 144 | 33 => 97 | n => n, fun | n => n⟩
theorem Try.sortedJ : Go.Proofs.SlLaysZI.n6 Try.prog Try.sortedJ_ren := {
  mixed := by kernel_rfl,
  f6 := ⟨Try.f72.name, by decide, Try.func72.trans (congrArg some (by kernel_rfl))⟩,
  f8 := ⟨Try.f84.name, by decide, Try.func84.trans (congrArg some (by kernel_rfl))⟩,
  f11 := ⟨Try.f90.name, by decide, Try.func90.trans (congrArg some (by kernel_rfl))⟩,
  t0 := Try.underlying0,
  a0 := Try.isAgg0,
  z0 := Try.sizeOf0,
  v0 := Try.zeroValue0,
  t24 := Try.underlying24,
  a24 := Try.isAgg24,
  z24 := Try.sizeOf24,
  v24 := Try.zeroValue24,
  t26 := Try.underlying3,
  a26 := Try.isAgg3,
  z26 := Try.sizeOf3,
  v26 := Try.zeroValue3,
  t28 := Try.underlying91,
  a28 := Try.isAgg91,
  z28 := Try.sizeOf91,
  v28 := Try.zeroValue91,
  i26 := by kernel_rfl }

def Try.sortJ_ren : Go.Shelf.Ren := ⟨fun | 5 => 85 | 8 => 92 | 7 => 91 | 19 => 102 | 20 => 103 | 10 => 93 | 11 => 94 | 12 => 95 | 13 => 96 | 14 => 97 | 15 => 98 | 16 => 99 | 17 => 100 | 18 => 101 | 30 => 104 | 31 => 105 | 32 => 106 | 33 => 107 | 34 => 108 | 35 => 109 | 40 => 110 | n => n, fun | 23 => 24 | 25 => 3 | 3 => 3 | 32 => 124 | 22 => 24 | 0 => 0 | 44 => 135 | 46 => 31 | 4 => 4 | 36 => 127 | 35 => 126 | 41 => 132 | 5 => 5 | 9 => 9 | 53 => 137 | 57 => 141 | 63 => 143 | 64 => 144 | n => n, fun | n => n⟩
theorem Try.sortJ : Go.Proofs.SlLaysM.n5 Try.prog Try.sortJ_ren := {
  mixed := by kernel_rfl,
  f5 := ⟨Try.f85.name, by decide, Try.func85.trans (congrArg some (by kernel_rfl))⟩,
  f7 := ⟨Try.f91.name, by decide, Try.func91.trans (congrArg some (by kernel_rfl))⟩,
  f8 := Try.func92.trans (congrArg some (by kernel_rfl)),
  f10 := ⟨Try.f93.name, by decide, Try.func93.trans (congrArg some (by kernel_rfl))⟩,
  f11 := ⟨Try.f94.name, by decide, Try.func94.trans (congrArg some (by kernel_rfl))⟩,
  f12 := ⟨Try.f95.name, by decide, Try.func95.trans (congrArg some (by kernel_rfl))⟩,
  f13 := ⟨Try.f96.name, by decide, Try.func96.trans (congrArg some (by kernel_rfl))⟩,
  f14 := ⟨Try.f97.name, by decide, Try.func97.trans (congrArg some (by kernel_rfl))⟩,
  f15 := ⟨Try.f98.name, by decide, Try.func98.trans (congrArg some (by kernel_rfl))⟩,
  f16 := ⟨Try.f99.name, by decide, Try.func99.trans (congrArg some (by kernel_rfl))⟩,
  f17 := ⟨Try.f100.name, by decide, Try.func100.trans (congrArg some (by kernel_rfl))⟩,
  f18 := ⟨Try.f101.name, by decide, Try.func101.trans (congrArg some (by kernel_rfl))⟩,
  f19 := Try.func102.trans (congrArg some (by kernel_rfl)),
  f20 := Try.func103.trans (congrArg some (by kernel_rfl)),
  f30 := ⟨Try.f104.name, by decide, Try.func104.trans (congrArg some (by kernel_rfl))⟩,
  f31 := Try.func105.trans (congrArg some (by kernel_rfl)),
  f32 := Try.func106.trans (congrArg some (by kernel_rfl)),
  f33 := ⟨Try.f107.name, by decide, Try.func107.trans (congrArg some (by kernel_rfl))⟩,
  f34 := ⟨Try.f108.name, by decide, Try.func108.trans (congrArg some (by kernel_rfl))⟩,
  f35 := ⟨Try.f109.name, by decide, Try.func109.trans (congrArg some (by kernel_rfl))⟩,
  f40 := ⟨Try.f110.name, by decide, Try.func110.trans (congrArg some (by kernel_rfl))⟩,
  t0 := Try.underlying0,
  a0 := Try.isAgg0,
  z0 := Try.sizeOf0,
  v0 := Try.zeroValue0,
  t3 := Try.underlying3,
  a3 := Try.isAgg3,
  z3 := Try.sizeOf3,
  v3 := Try.zeroValue3,
  t4 := Try.underlying4,
  a4 := Try.isAgg4,
  z4 := Try.sizeOf4,
  v4 := Try.zeroValue4,
  t5 := Try.underlying5,
  a5 := Try.isAgg5,
  z5 := Try.sizeOf5,
  v5 := Try.zeroValue5,
  t9 := Try.underlying9,
  a9 := Try.isAgg9,
  z9 := Try.sizeOf9,
  v9 := Try.zeroValue9,
  t22 := Try.underlying24,
  a22 := Try.isAgg24,
  z22 := Try.sizeOf24,
  v22 := Try.zeroValue24,
  t23 := Try.underlying24,
  a23 := Try.isAgg24,
  z23 := Try.sizeOf24,
  v23 := Try.zeroValue24,
  t25 := Try.underlying3,
  a25 := Try.isAgg3,
  z25 := Try.sizeOf3,
  v25 := Try.zeroValue3,
  t32 := Try.underlying124,
  a32 := Try.isAgg124,
  z32 := Try.sizeOf124,
  v32 := Try.zeroValue124,
  t35 := Try.underlying126,
  a35 := Try.isAgg126,
  z35 := Try.sizeOf126,
  v35 := Try.zeroValue126,
  t36 := Try.underlying127,
  a36 := Try.isAgg127,
  z36 := Try.sizeOf127,
  v36 := Try.zeroValue127,
  t41 := Try.underlying132,
  a41 := Try.isAgg132,
  z41 := Try.sizeOf132,
  v41 := Try.zeroValue132,
  t44 := Try.underlying135,
  a44 := Try.isAgg135,
  z44 := Try.sizeOf135,
  v44 := Try.zeroValue135,
  t46 := Try.underlying31,
  a46 := Try.isAgg31,
  z46 := Try.sizeOf31,
  v46 := Try.zeroValue31,
  t53 := Try.underlying137,
  a53 := Try.isAgg137,
  z53 := Try.sizeOf137,
  v53 := Try.zeroValue137,
  t57 := Try.underlying141,
  a57 := Try.isAgg141,
  z57 := Try.sizeOf141,
  v57 := Try.zeroValue141,
  t63 := Try.underlying143,
  a63 := Try.isAgg143,
  z63 := Try.sizeOf143,
  v63 := Try.zeroValue143,
  t64 := Try.underlying144,
  a64 := Try.isAgg144,
  z64 := Try.sizeOf144,
  v64 := Try.zeroValue144 }


theorem sortsJ (m : Nat) : AnyZI.SortsIn Try.prog Try.sortedJ_ren Fence.wide m :=
  ⟨fun blk off cap ss W hH hblk hsz => callsIn_wide.2 (AnyM.slices_Sort_int Try.sortJ blk off cap ss W hH hblk hsz),
   fun p cap W => callsIn_wide.2 (AnyM.slices_Sort_int_none Try.sortJ p cap W)⟩

end Go.Proofs.Ytcefadbnmpjeiaa


/-
  The program's pool: New, fresh, Of, Release, Commit.
-/
namespace Go.Proofs.Ytcefadbnmpjeiaa
open Go.RowKit Go.Maps

/-- The pool lies in block b, its map in block m. -/
structure PoolAt (w : World) (b m : Nat) (l : LayD) (H : List (Int × HoldD)) : Prop where
  blk : Blk w b 106 #[.int .i64 l.s, .int .i64 l.p, .map (some m)]
  map : MapL Try.prog 3 w m (H.map hP)
  wf : ∀ p ∈ H, wf64 p.1
  len : H.length ≤ 100000

theorem PoolAt.fr {S : Nat → Prop} {w w' : World} {b m : Nat} {l : LayD} {H : List (Int × HoldD)} (h : PoolAt w b m l H) (hf : Fr S w w') (hb : ¬ S b) (hm : ¬ S m) : PoolAt w' b m l H :=
  ⟨h.blk.fr hf hb, h.map.fr hf hm, h.wf, h.len⟩
theorem PoolAt.fr0 {w w' : World} {b m : Nat} {l : LayD} {H : List (Int × HoldD)} (h : PoolAt w b m l H) (hf : Fr (fun _ => False) w w') : PoolAt w' b m l H := h.fr hf (fun h => h) (fun h => h)

set_option maxHeartbeats 400000 in
theorem new35_any (l : LayD) (hl : l.check = 0) (w : World) : Calls Try.prog 35 #[l.val] w fun e w' => ∃ b m, e = .returned (.pointer (some ⟨b, 0, none⟩)) ∧ w.heap.size ≤ b ∧ w.heap.size ≤ m ∧ PoolAt w' b m l [] ∧ Fr (fun _ => False) w w' := by
  have hr := @run_makeMap Try.prog
  have h18 := fun W => check18_any l W
  rw [hl] at h18
  obtain ⟨s, p⟩ := l
  simp only [LayD.val] at *
  have H18 := Lib.hid h18
  have HB := Lib.hid (Blk.new w 28 #[.int .i64 s, .int .i64 p])
  clear h18
  go_enter Try.func35, Try.ntmps35
  go_wp2_with fail
  refine (H18.out _).mono ?_
  rintro e w1 ⟨rfl, hf1⟩
  have hB1 := HB.out.fr hf1 (fun h => h)
  have e1 := fun i => hB1.cell i
  go_wp2_with fail
  go_ret
  have hsz : w.heap.size ≤ w1.heap.size := (((Fr.refl (fun _ => False) w).alloc (.cells #[.int .i64 s, .int .i64 p] 28)).then hf1).size
  refine ⟨_, w1.heap.size, rfl, ?_, hsz, ⟨?_, ?_, by simp, by simp⟩, ((((Fr.refl _ w).alloc _).then hf1).alloc _).alloc _⟩
  · omega
  · have := Blk.new (w1.alloc (.map #[] 0)) 106 #[.int .i64 s, .int .i64 p, .map (some w1.heap.size)]
    simpa using this
  · exact (MapL.made w1 Try.prog 3).alloc _

set_option maxHeartbeats 400000 in
theorem new35_nil (l : LayD) (hl : l.check ≠ 0) (w : World) : Calls Try.prog 35 #[l.val] w fun e w' => e = .returned (.pointer none) ∧ Fr (fun _ => False) w w' := by
  have h18 := fun W => check18_any l W
  have hb : (l.check == 0) = false := by simpa using hl
  generalize l.check = ck at *
  obtain ⟨s, p⟩ := l
  simp only [LayD.val] at *
  have H18 := Lib.hid h18
  clear h18
  go_enter Try.func35, Try.ntmps35
  go_wp2_with fail
  refine (H18.out _).mono ?_
  rintro e w1 ⟨rfl, hf1⟩
  go_wp2_with fail
  go_ret
  exact ⟨rfl, ((Fr.refl _ w).alloc _).then hf1⟩

/-- May a number be an owner? -/
def mayO (n : Int) : Bool := decide (0 ≤ n) && decide (n ≤ 1099511627776)

set_option maxHeartbeats 400000 in
theorem may87_any (n : Int) (w : World) : Calls Try.prog 87 #[.int .i64 n] w fun e w' => e = .returned (.bool (mayO n)) ∧ w = w' := by
  unfold mayO
  by_cases h : 0 ≤ n
  · have h1 : decide (0 ≤ n) = true := decide_eq_true h
    have h1' : decide (n ≥ 0) = true := decide_eq_true h
    rw [h1]
    go_enter Try.func87, Try.ntmps87
    go_wp2
    go_ret
    exact ⟨by simp, rfl⟩
  · have h1 : decide (0 ≤ n) = false := decide_eq_false h
    have h1' : decide (n ≥ 0) = false := decide_eq_false h
    rw [h1]
    go_enter Try.func87, Try.ntmps87
    go_wp2
    go_ret
    exact ⟨by simp, rfl⟩

def freshE (H : List (Int × HoldD)) (n : Int) : Int := if mayO n then (if (findH H n).isSome then 14 else 0) else 1

theorem mayO_wf {n : Int} (h : mayO n = true) : wf64 n := by
  unfold mayO at h
  simp only [Bool.and_eq_true, decide_eq_true_eq] at h
  unfold wf64
  omega

set_option maxRecDepth 20000 in
set_option maxHeartbeats 1000000 in
theorem fresh76_any (w : World) (b m : Nat) (l : LayD) (H : List (Int × HoldD)) (h : PoolAt w b m l H) (n : Int) (hn : wf64 n) :
    Calls Try.prog 76 #[.pointer (some ⟨b, 0, none⟩), .int .i64 n] w fun e w' => e = .returned (.int .i64 (freshE H n)) ∧ Fr (fun _ => False) w w' := by
  have h87 := fun W => may87_any n W
  have hlk := look_h Try.underlying104 h.map hn true
  have c2 := h.blk.cell 2
  simp only [if_true] at hlk
  unfold freshE
  cases hm : mayO n with
  | false =>
    rw [hm] at h87
    have H87 := Lib.hid h87
    clear h87 hlk c2 h
    go_enter Try.func76, Try.ntmps76
    go_wp2_with (go_at_call 87; refine (H87.out _).mono ?_; rintro e w1 ⟨rfl, rfl⟩)
    go_ret
    exact ⟨rfl, Fr.refl _ _⟩
  | true =>
    rw [hm] at h87
    have H87 := Lib.hid h87
    clear h87 h
    rw [if_pos rfl]
    generalize hv : (findH H n).getD (0, false) = v at *
    obtain ⟨M, d⟩ := v
    simp only [holdV] at hlk
    cases hf : (findH H n).isSome with
    | true =>
      rw [hf] at hlk
      clear hf hv
      go_enter Try.func76, Try.ntmps76
      go_wp2_with (go_at_call 87; refine (H87.out _).mono ?_; rintro e w1 ⟨rfl, rfl⟩)
      go_ret
      exact ⟨rfl, (Fr.refl _ w).alloc _⟩
    | false =>
      rw [hf] at hlk
      clear hf hv
      go_enter Try.func76, Try.ntmps76
      go_wp2_with (go_at_call 87; refine (H87.out _).mono ?_; rintro e w1 ⟨rfl, rfl⟩)
      go_ret
      exact ⟨rfl, (Fr.refl _ w).alloc _⟩

set_option maxHeartbeats 400000 in
theorem fresh76_nil (n : Int) (w : World) : Calls Try.prog 76 #[.pointer none, .int .i64 n] w fun e w' => e = .returned (.int .i64 1) ∧ Fr (fun _ => False) w w' := by
  go_enter Try.func76, Try.ntmps76
  go_wp2
  go_ret
  exact ⟨rfl, Fr.refl _ _⟩

end Go.Proofs.Ytcefadbnmpjeiaa

/-
  The program's pool: Of, Release, Commit.
-/
namespace Go.Proofs.Ytcefadbnmpjeiaa
open Go.RowKit Go.Maps

def ofP (H : List (Int × HoldD)) (n : Int) : HoldD := (findH H n).getD (0, false)

theorem results_cell_tmp' {fn : Func} {p u : Tmp} {ty : TypeId} (h : fn.results = #[.cell p ty, .tmp u]) (tmps : Array Value) (P : Program) (w : World) :
    (results fn tmps).run P w = ((asAddr (tmps.getD p undef)).run P w).andThen fun a w₁ => ((loadVar ty a).run P w₁).andThen fun v w₂ => .ok (.tuple #[v, tmps.getD u undef]) w₂ := by
  simp only [results, h]
  simp [Sem.run_bind, Result.andThen]

set_option maxRecDepth 20000 in
set_option maxHeartbeats 1000000 in
theorem of43_any (w : World) (b m : Nat) (l : LayD) (H : List (Int × HoldD)) (h : PoolAt w b m l H) (n : Int) (hn : wf64 n) :
    Calls Try.prog 43 #[.pointer (some ⟨b, 0, none⟩), .int .i64 n] w fun e w' => e = .returned (.tuple #[valM (ofP H n).1, .bool (ofP H n).2]) ∧ Fr (fun _ => False) w w' := by
  have hlk := fun W (hf : Fr (fun _ => False) w W) => look_h (w := W) Try.underlying104 (h.map.fr hf (fun h => h)) hn false
  have hb := (h.blk).alloc (.cells #[.int .u64 0, .int .u64 0, .int .u64 0, .int .u64 0] 33)
  have hl1 := hlk _ ((Fr.refl _ w).alloc (.cells #[.int .u64 0, .int .u64 0, .int .u64 0, .int .u64 0] 33))
  have c2 := hb.cell 2
  have hz := Blk.new w 33 #[.int .u64 0, .int .u64 0, .int .u64 0, .int .u64 0]
  simp only [Bool.false_eq_true, if_false] at hl1
  unfold ofP
  generalize hv : (findH H n).getD (0, false) = v at *
  obtain ⟨M, d⟩ := v
  simp only [holdV] at hl1
  unfold valM
  simp only [Ytcefadbnmpjeiaa.cellsM]
  have hlt := h.blk.lt
  have hmlt := h.map.lt
  clear hlk hv
  go_enter Try.func43, Try.ntmps43
  go_wp2_with fail
  clear hl1 c2 hb
  have hZ := hz.alloc (.cells #[.int .u64 (wordM M 0 : Nat), .int .u64 (wordM M 1 : Nat), .int .u64 (wordM M 2 : Nat), .int .u64 (wordM M 3 : Nat), .bool d] 112)
  have hH := Blk.new (w.alloc (.cells #[.int .u64 0, .int .u64 0, .int .u64 0, .int .u64 0] 33)) 112 #[.int .u64 (wordM M 0 : Nat), .int .u64 (wordM M 1 : Nat), .int .u64 (wordM M 2 : Nat), .int .u64 (wordM M 3 : Nat), .bool d]
  rw [World.size_alloc] at hH
  have hF := ((Fr.refl (fun _ => False) w).alloc (.cells #[.int .u64 0, .int .u64 0, .int .u64 0, .int .u64 0] 33)).alloc (.cells #[.int .u64 (wordM M 0 : Nat), .int .u64 (wordM M 1 : Nat), .int .u64 (wordM M 2 : Nat), .int .u64 (wordM M 3 : Nat), .bool d] 112)
  generalize hw0 : ((w.alloc (.cells #[.int .u64 0, .int .u64 0, .int .u64 0, .int .u64 0] 33)).alloc (.cells #[.int .u64 (wordM M 0 : Nat), .int .u64 (wordM M 1 : Nat), .int .u64 (wordM M 2 : Nat), .int .u64 (wordM M 3 : Nat), .bool d] 112)) = w0 at hZ hH hF ⊢
  clear hw0
  have HF := Lib.hid hF
  obtain ⟨f0, f1, f2, f3⟩ := hZ.frozenM
  have z0 := hZ.cell 0
  have z1 := hZ.cell 1
  have z2 := hZ.cell 2
  have z3 := hZ.cell 3
  have y0 := hH.cell 0
  have y1 := hH.cell 1
  have y2 := hH.cell 2
  have y3 := hH.cell 3
  have y4 := hH.cell 4
  simp only [List.getElem?_toArray, List.getElem?_cons_zero, List.getElem?_cons_succ] at z0 z1 z2 z3 y0 y1 y2 y3 y4
  clear hZ hH hF hz
  go_region
  go_wp2
  (try simp only [Exit.inBlock, Exit.then])
  refine bodyPost_ret (v := .tuple #[.agg #[.int .u64 (wordM M 0 : Nat), .int .u64 (wordM M 1 : Nat), .int .u64 (wordM M 2 : Nat), .int .u64 (wordM M 3 : Nat)], .bool d]) ?_ rfl ⟨rfl, (HF.out.setM (Or.inr (Nat.le_refl _)) _ _ _ _).drew⟩
  rw [results_cell_tmp' rfl]
  go_simp

set_option maxHeartbeats 400000 in
theorem of43_nil (n : Int) (w : World) : Calls Try.prog 43 #[.pointer none, .int .i64 n] w fun e w' => e = .returned (.tuple #[valM 0, .bool false]) ∧ Fr (fun _ => False) w w' := by
  have hz := Blk.new w 33 #[.int .u64 0, .int .u64 0, .int .u64 0, .int .u64 0]
  have z0 := fun i => hz.cell i
  go_enter Try.func43, Try.ntmps43
  go_wp2
  (try simp only [Exit.inBlock, Exit.then])
  refine bodyPost_ret (v := .tuple #[.agg #[.int .u64 0, .int .u64 0, .int .u64 0, .int .u64 0], .bool false]) ?_ rfl ⟨by rw [valM, zero_cells], (Fr.refl _ w).alloc _⟩
  rw [results_cell_tmp' rfl]
  go_simp

def releaseP (H : List (Int × HoldD)) (n : Int) : List (Int × HoldD) × Int := if (findH H n).isSome then (delH H n, 0) else (H, 14)

set_option maxRecDepth 20000 in
set_option maxHeartbeats 1000000 in
theorem release45_any (w : World) (b m : Nat) (l : LayD) (H : List (Int × HoldD)) (h : PoolAt w b m l H) (n : Int) (hn : wf64 n) :
    Calls Try.prog 45 #[.pointer (some ⟨b, 0, none⟩), .int .i64 n] w fun e w' => e = .returned (.int .i64 (releaseP H n).2) ∧ PoolAt w' b m l (releaseP H n).1 ∧ Fr (fun i => i = m) w w' := by
  have hlk := look_h Try.underlying104 h.map hn true
  have c2 := h.blk.cell 2
  have hblt := h.blk.lt
  simp only [if_true] at hlk
  unfold releaseP
  generalize hv : (findH H n).getD (0, false) = v at *
  obtain ⟨M, d⟩ := v
  simp only [holdV] at hlk
  have HH := Lib.hid h
  cases hf : (findH H n).isSome with
  | false =>
    rw [hf] at hlk
    rw [if_neg (by simp)]
    clear hf hv h
    go_enter Try.func45, Try.ntmps45
    go_wp2
    go_ret
    exact ⟨rfl, HH.out.fr0 ((Fr.refl _ w).alloc _), ((Fr.refl (fun _ => False) w).alloc _).mono (fun _ _ h => h.elim)⟩
  | true =>
    rw [hf] at hlk
    rw [if_pos rfl]
    have HM := Lib.hid (h.map.alloc (.cells #[.int .u64 (wordM M 0 : Nat), .int .u64 (wordM M 1 : Nat), .int .u64 (wordM M 2 : Nat), .int .u64 (wordM M 3 : Nat), .bool d] 112))
    clear hf hv h
    obtain ⟨w2, hrun, hm2, hg2⟩ := HM.out.drop law3 Try.underlying104 (key3 hn) 0
    go_enter Try.func45, Try.ntmps45
    go_wp2
    go_ret
    have h0 := HH.out.fr0 ((Fr.refl _ w).alloc (.cells #[.int .u64 (wordM M 0 : Nat), .int .u64 (wordM M 1 : Nat), .int .u64 (wordM M 2 : Nat), .int .u64 (wordM M 3 : Nat), .bool d] 112))
    have hF : Fr (fun i => i = m) w w2 := (((Fr.refl (fun i => i = m) w).alloc _)).grown hg2 (fun k e => Or.inl (Option.some.inj e).symm)
    refine ⟨rfl, ⟨h0.blk.grown hg2 (fun e => h0.map.ne_blk h0.blk (Option.some.inj e).symm), by rw [delH_map] at hm2; exact hm2, fun p hp => h0.wf p (List.mem_filter.1 hp).1, Nat.le_trans (List.length_filter_le _ _) h0.len⟩, hF⟩

set_option maxHeartbeats 400000 in
theorem release45_nil (n : Int) (w : World) : Calls Try.prog 45 #[.pointer none, .int .i64 n] w fun e w' => e = .returned (.int .i64 1) ∧ Fr (fun _ => False) w w' := by
  go_enter Try.func45, Try.ntmps45
  go_wp2
  go_ret
  exact ⟨rfl, Fr.refl _ _⟩

def commitP (H : List (Int × HoldD)) (n : Int) : List (Int × HoldD) × Int :=
  match findH H n with
  | none => (H, 14)
  | some (M, d) => if d then (H, 14) else (putH H n (M, true), 0)

set_option maxRecDepth 20000 in
set_option maxHeartbeats 1000000 in
theorem commit48_any (w : World) (b m : Nat) (l : LayD) (H : List (Int × HoldD)) (h : PoolAt w b m l H) (n : Int) (hn : wf64 n) (hH : H.length < 100000) :
    Calls Try.prog 48 #[.pointer (some ⟨b, 0, none⟩), .int .i64 n] w fun e w' => e = .returned (.int .i64 (commitP H n).2) ∧ PoolAt w' b m l (commitP H n).1 ∧ Fr (fun i => i = m) w w' := by
  have hlk := look_h Try.underlying104 h.map hn true
  have c2 := h.blk.cell 2
  have hblt := h.blk.lt
  simp only [if_true] at hlk
  unfold commitP
  have HH := Lib.hid h
  cases hf : findH H n with
  | none =>
    rw [hf] at hlk
    simp only [Option.getD_none, Option.isSome_none, holdV] at hlk
    clear hf h
    go_enter Try.func48, Try.ntmps48
    go_wp2
    go_ret
    exact ⟨rfl, HH.out.fr0 ((Fr.refl _ w).alloc _), ((Fr.refl (fun _ => False) w).alloc _).mono (fun _ _ h => h.elim)⟩
  | some v =>
    obtain ⟨M, d⟩ := v
    rw [hf] at hlk
    simp only [Option.getD_some, Option.isSome_some, holdV] at hlk
    clear hf
    cases d with
    | true =>
      clear h
      go_enter Try.func48, Try.ntmps48
      go_wp2
      go_ret
      exact ⟨rfl, HH.out.fr0 ((Fr.refl _ w).alloc _), ((Fr.refl (fun _ => False) w).alloc _).mono (fun _ _ h => h.elim)⟩
    | false =>
      clear h
      go_enter Try.func48, Try.ntmps48
      go_wp2_with fail
      have hB0 := HH.out.fr0 ((Fr.refl _ w).alloc (.cells #[.int .u64 (wordM M 0 : Nat), .int .u64 (wordM M 1 : Nat), .int .u64 (wordM M 2 : Nat), .int .u64 (wordM M 3 : Nat), .bool true] 112))
      have hX0 := Blk.new w 112 #[.int .u64 (wordM M 0 : Nat), .int .u64 (wordM M 1 : Nat), .int .u64 (wordM M 2 : Nat), .int .u64 (wordM M 3 : Nat), .bool true]
      have hF0 := (Fr.refl (fun _ => False) w).alloc (.cells #[.int .u64 (wordM M 0 : Nat), .int .u64 (wordM M 1 : Nat), .int .u64 (wordM M 2 : Nat), .int .u64 (wordM M 3 : Nat), .bool true] 112)
      clear hlk c2
      generalize hw0 : w.alloc (.cells #[.int .u64 (wordM M 0 : Nat), .int .u64 (wordM M 1 : Nat), .int .u64 (wordM M 2 : Nat), .int .u64 (wordM M 3 : Nat), .bool true] 112) = w0 at hB0 hX0 hF0 ⊢
      clear hw0
      have l0 := Later.cell (hX0.cell 0)
      have l1 := Later.cell (hX0.cell 1)
      have l2 := Later.cell (hX0.cell 2)
      have l3 := Later.cell (hX0.cell 3)
      have l4 := Later.cell (hX0.cell 4)
      have l5 := Later.cell (hB0.blk.cell 2)
      have HB0 := Lib.hid hB0
      clear hB0 hX0
      refine wp_region_later_tail w0 6 (by kernel_rfl) (by kernel_rfl) (Fr.refl _ _) ?_
      simp only [List.take_succ_cons, List.take_zero, List.drop_succ_cons, List.drop_zero]
      repeat (go_big_quiet_step (fail))
      refine wpQuiet_nil ?_
      rintro _ ⟨dd, rfl⟩
      have hB1 := HB0.out.fr0 dd.fr
      have HB1 := Lib.hid hB1
      have hF1 := hF0.then dd.fr
      clear l0 l1 l2 l3 l4 l5 hB1
      go_wp2_with (at_mapUpdate; refine wpList_mapStore rfl _ _ _ 104 rfl 112 law3 Try.underlying104 rfl HB1.out.map (by rw [List.length_map]; unfold maxLen; omega) (.int .i64 n) (holdV (M, true)) (.int .i64 n) rfl rfl (key3 hn) ?_; intro w2 hm2 hg2)
      go_ret
      rw [putH_map] at hm2
      have hB2 := HB1.out
      refine ⟨rfl, ⟨hB2.blk.grown hg2 (fun e => hB2.map.ne_blk hB2.blk (Option.some.inj e).symm), hm2, ?_, ?_⟩, (hF1.mono (S' := fun i => i = m) (fun _ _ h => h.elim)).then (Fr.of_grown hg2 fun k e => (Option.some.inj e).symm)⟩
      · intro p hp
        rcases List.mem_cons.1 hp with rfl | hp
        · exact hn
        · exact hB2.wf p (List.mem_filter.1 hp).1
      · have := List.length_filter_le (fun p : Int × HoldD => p.1 != n) H
        simp only [putH, List.length_cons]
        omega

set_option maxHeartbeats 400000 in
theorem commit48_nil (n : Int) (w : World) : Calls Try.prog 48 #[.pointer none, .int .i64 n] w fun e w' => e = .returned (.int .i64 1) ∧ Fr (fun _ => False) w w' := by
  go_enter Try.func48, Try.ntmps48
  go_wp2
  go_ret
  exact ⟨rfl, Fr.refl _ _⟩

end Go.Proofs.Ytcefadbnmpjeiaa

/-
  The program's pool: Free.
-/
namespace Go.Proofs.Ytcefadbnmpjeiaa
open Go.RowKit Go.Maps

/-- What is left of A when all of D have taken theirs. -/
def freeOf (A : Nat) (D : List (Int × HoldD)) : Nat := D.foldr (fun p F => minusM F p.2.1) A
def freeP (l : LayD) (H : List (Int × HoldD)) : Nat := freeOf l.all H

theorem freeOf_bit (A : Nat) (D : List (Int × HoldD)) (n : Nat) : (freeOf A D).testBit n = (A.testBit n && !(D.any fun p => p.2.1.testBit n)) := by
  induction D with
  | nil => simp [freeOf]
  | cons p D ih =>
    show (minusM (freeOf A D) p.2.1).testBit n = _
    unfold minusM
    rw [Nat.testBit_xor, Nat.testBit_and, ih, List.any_cons]
    cases A.testBit n <;> cases p.2.1.testBit n <;> cases (D.any fun p => p.2.1.testBit n) <;> rfl

theorem any_perm {α : Type} {f : α → Bool} {L L' : List α} (h : L.Perm L') : L.any f = L'.any f := by
  cases h1 : L.any f with
  | true =>
    obtain ⟨x, hx, hf⟩ := List.any_eq_true.1 h1
    exact (List.any_eq_true.2 ⟨x, h.mem_iff.1 hx, hf⟩).symm
  | false =>
    symm
    rw [List.any_eq_false] at h1 ⊢
    exact fun x hx => h1 x (h.mem_iff.2 hx)

theorem freeOf_perm {A : Nat} {D D' : List (Int × HoldD)} (h : D.Perm D') : freeOf A D = freeOf A D' :=
  Nat.eq_of_testBit_eq fun n => by rw [freeOf_bit, freeOf_bit, any_perm h]

theorem freeOf_lt {A : Nat} (hA : A < 2 ^ 256) (D : List (Int × HoldD)) : freeOf A D < 2 ^ 256 := by
  refine Nat.lt_pow_two_of_testBit _ fun n hn => ?_
  rw [freeOf_bit, Nat.testBit_lt_two_pow (Nat.lt_of_lt_of_le hA (Nat.pow_le_pow_right (by decide) hn))]
  rfl

theorem perm_map_cons {α β : Type} {f : α → β} {T : List α} {x : β} {L' : List β} {todo : List β} (h : todo.Perm (T.map f)) (hp : todo.Perm (x :: L')) : ∃ q T', T.Perm (q :: T') ∧ f q = x ∧ L'.Perm (T'.map f) := by
  have hm : x ∈ T.map f := (h.symm.trans hp).mem_iff.2 List.mem_cons_self
  obtain ⟨q, hq, rfl⟩ := List.mem_map.1 hm
  obtain ⟨l1, l2, rfl⟩ := List.append_of_mem hq
  refine ⟨q, l1 ++ l2, List.perm_middle, rfl, ?_⟩
  have h1 : (f q :: L').Perm (f q :: (l1 ++ l2).map f) := hp.symm.trans (h.trans (List.perm_middle.map f))
  exact h1.cons_inv

def FreeRel (A : Nat) (H : List (Int × HoldD)) (m r R F : Nat) (w wr : World) : Prop :=
  ∃ D T done todo, todo.Perm (T.map hP) ∧ (D ++ T).Perm H ∧ RangeL Try.prog 3 wr m r done todo ∧ Blk wr F 33 (cellsM (freeOf A D)) ∧ Blk wr R 33 #[.int .u64 0, .int .u64 0, .int .u64 0, .int .u64 0] ∧ Fr (fun _ => False) w wr

set_option maxRecDepth 20000 in
set_option maxHeartbeats 2000000 in
theorem free39_any (w : World) (b m : Nat) (l : LayD) (H : List (Int × HoldD)) (h : PoolAt w b m l H) :
    Calls Try.prog 39 #[.pointer (some ⟨b, 0, none⟩)] w fun e w' => e = .returned (valM (freeP l H)) ∧ Fr (fun _ => False) w w' := by
  have h16 := fun W => all16_any l W
  unfold freeP
  generalize l.all = A at *
  obtain ⟨s, p⟩ := l
  simp only [LayD.val, valM, Ytcefadbnmpjeiaa.cellsM] at *
  have hp1 := h.fr0 ((Fr.refl _ w).alloc (.cells #[.int .u64 0, .int .u64 0, .int .u64 0, .int .u64 0] 33))
  have HZ := Lib.hid (Blk.new w 33 #[.int .u64 0, .int .u64 0, .int .u64 0, .int .u64 0])
  have H16 := Lib.hid h16
  have HP1 := Lib.hid hp1
  have hblt := h.blk.lt
  have e1 := fun i => hp1.blk.cell i
  clear h16 h hp1
  go_enter Try.func39, Try.ntmps39
  go_wp2_with fail
  refine (H16.out _).mono ?_
  rintro e w1 ⟨rfl, hf1⟩
  clear e1
  have hp2 := HP1.out.fr0 hf1
  have HZ2 := Lib.hid ((HZ.out.fr hf1 (fun h => h)).alloc (.cells #[.int .u64 (wordM A 0 : Nat), .int .u64 (wordM A 1 : Nat), .int .u64 (wordM A 2 : Nat), .int .u64 (wordM A 3 : Nat)] 33))
  have HF2 := Lib.hid (Blk.new w1 33 (cellsM A))
  have hf2 := (((Fr.refl (fun _ => False) w).alloc (.cells #[.int .u64 0, .int .u64 0, .int .u64 0, .int .u64 0] 33)).then hf1)
  have HFR := Lib.hid (hf2.alloc (.cells #[.int .u64 (wordM A 0 : Nat), .int .u64 (wordM A 1 : Nat), .int .u64 (wordM A 2 : Nat), .int .u64 (wordM A 3 : Nat)] 33))
  have hsz1 := hf2.size
  have hsz2 : w.heap.size < w1.heap.size := (HZ.out.fr hf1 (fun h => h)).lt
  have HP2 := Lib.hid (hp2.fr0 ((Fr.refl _ w1).alloc (.cells #[.int .u64 (wordM A 0 : Nat), .int .u64 (wordM A 1 : Nat), .int .u64 (wordM A 2 : Nat), .int .u64 (wordM A 3 : Nat)] 33)))
  have hblt2 := hp2.blk.lt
  have e2 := fun i => hp2.blk.cell i
  clear hp2 hf1 hf2
  go_wp2_with (at_range; refine wpList_rangeL rfl _ 104 rfl 112 Try.underlying104 rfl HP2.out.map ?_; intro w0 hr0 hf0)
  clear e2
  have HZ3 := Lib.hid (HZ2.out.fr hf0 (fun h => h))
  have HF3 := Lib.hid (HF2.out.fr hf0 (fun h => h))
  have HFR3 := Lib.hid (HFR.out.then hf0)
  simp only [World.size_alloc] at hr0 ⊢
  go_frame
  go_loopw [5] (fun _ wr => FreeRel A H m (w1.heap.size + 1) w.heap.size w1.heap.size w wr) (fun _ wr => wr.rangeLeft m (w1.heap.size + 1))
  case atStart => exact ⟨[], H, [], _, List.Perm.refl _, List.Perm.refl _, hr0, HF3.out, HZ3.out, HFR3.out⟩
  case round =>
    obtain ⟨D, T, done, todo, hT, hDT, hrg, hF, hZ, hfr⟩ := hrel
    clear hr0 hf0
    go_wp2_with (at_next; refine wpList_nextL rfl _ rfl rfl hrg ?_ ?_)
    · intro ht
      subst ht
      obtain rfl : T = [] := by simpa using hT.length_eq.symm
      rw [List.append_nil] at hDT
      rw [freeOf_perm hDT] at hF
      obtain ⟨c0, c1, c2, c3⟩ := hF.cellsM
      obtain ⟨f0, f1, f2, f3⟩ := hZ.frozenM
      have z0 := fun i => hZ.cell i
      have HFX := Lib.hid hfr
      clear hF hZ hfr hrg hT
      go_wp2
      (try simp only [Exit.inBlock, Exit.then])
      refine bodyPost_ret (v := .agg #[.int .u64 (wordM (freeOf A H) 0 : Nat), .int .u64 (wordM (freeOf A H) 1 : Nat), .int .u64 (wordM (freeOf A H) 2 : Nat), .int .u64 (wordM (freeOf A H) 3 : Nat)]) ?_ rfl ⟨rfl, HFX.out.setM (Or.inr (Nat.le_refl _)) _ _ _ _⟩
      rw [results_cell1 rfl]
      go_simp
    · intro key v kl todo' w3 hkey hp hr1 hf1 hen
      obtain ⟨q, T', hTq, hq, hT'⟩ := perm_map_cons hT hp
      obtain ⟨n, M, d⟩ := q
      simp only [hP, Prod.mk.injEq] at hq
      obtain ⟨rfl, rfl⟩ := hq
      have h33 := fun W => minus_any (freeOf A D) M W
      have hD2 : ((n, (M, d)) :: D ++ T').Perm H := (List.perm_middle.symm.trans ((hTq.symm.append_left D))).trans hDT
      have HL := Lib.hid hrg.left_eq
      have HPL := Lib.hid hp.length_eq
      have hrl := hrg.lt
      have hFb := hF.fr hf1 (by have := hrg.no_cells hF; omega)
      have hZb := hZ.fr hf1 (by have := hrg.no_cells hZ; omega)
      have hF3 := hfr.trans hf1 (fun i hi e => by omega)
      have hne : w1.heap.size ≠ w1.heap.size + 1 := by omega
      simp only [valM, Ytcefadbnmpjeiaa.cellsM] at h33
      have H33 := Lib.hid h33
      have HR1 := Lib.hid hr1
      have HT' := Lib.hid hT'
      have HD2 := Lib.hid hD2
      have hFc := hFb.alloc (.cells #[.int .u64 (wordM M 0 : Nat), .int .u64 (wordM M 1 : Nat), .int .u64 (wordM M 2 : Nat), .int .u64 (wordM M 3 : Nat), .bool d] 112)
      have HZc := Lib.hid (hZb.alloc (.cells #[.int .u64 (wordM M 0 : Nat), .int .u64 (wordM M 1 : Nat), .int .u64 (wordM M 2 : Nat), .int .u64 (wordM M 3 : Nat), .bool d] 112))
      have HRc := Lib.hid (hr1.alloc (.cells #[.int .u64 (wordM M 0 : Nat), .int .u64 (wordM M 1 : Nat), .int .u64 (wordM M 2 : Nat), .int .u64 (wordM M 3 : Nat), .bool d] 112))
      have HFc := Lib.hid (hF3.alloc (.cells #[.int .u64 (wordM M 0 : Nat), .int .u64 (wordM M 1 : Nat), .int .u64 (wordM M 2 : Nat), .int .u64 (wordM M 3 : Nat), .bool d] 112))
      have HFcc := Lib.hid hFc
      obtain ⟨c0, c1, c2, c3⟩ := hFc.cellsM
      have hw3 : w1.heap.size + 1 < w3.heap.size := hr1.lt.2
      simp only [holdV] at hen
      clear h33 hF hZ hFb hZb hFc hfr hF3 hr1 hrg hp hT hT' hTq hDT hD2 hf1 hkey
      go_wp2_with fail
      refine (H33.out _).mono ?_
      rintro e w5 ⟨rfl, hf5⟩
      clear c0 c1 c2 c3
      have hF5 := HFcc.out.fr hf5 (fun h => h)
      obtain ⟨f0, f1, f2, f3⟩ := hF5.frozenM
      obtain ⟨y0, y1, y2, y3⟩ := hF5.cellsM
      have HS := Lib.hid (Blk.setM rfl hF5 (minusM (freeOf A D) M))
      have hr5 := HRc.out.fr hf5 (fun h => h) (fun h => h)
      have hz5 := HZc.out.fr hf5 (fun h => h)
      have hfr5 := HFc.out.then hf5
      clear hF5
      go_wp2_with fail
      have hmne := hr5.ne
      have hnc := hr5.no_cells (HFcc.out.fr hf5 (fun h => h))
      have hr6 := (((hr5.setCell (a := ⟨w1.heap.size, 0, none⟩) hnc.1 hnc.2 (.int .u64 (wordM (minusM (freeOf A D) M) 0 : Nat))).setCell (a := ⟨w1.heap.size, 1, none⟩) hnc.1 hnc.2 (.int .u64 (wordM (minusM (freeOf A D) M) 1 : Nat))).setCell (a := ⟨w1.heap.size, 2, none⟩) hnc.1 hnc.2 (.int .u64 (wordM (minusM (freeOf A D) M) 2 : Nat))).setCell (a := ⟨w1.heap.size, 3, none⟩) hnc.1 hnc.2 (.int .u64 (wordM (minusM (freeOf A D) M) 3 : Nat))
      go_roundw
      case rel => exact ⟨(n, (M, d)) :: D, T', _, todo', HT'.out, HD2.out, hr6, HS.out, hz5.farM (by omega) _ _ _ _, hfr5.setM (Or.inr hsz1) _ _ _ _⟩
      case measure => rw [HL.out, hr6.left_eq, HPL.out]; simp

set_option maxHeartbeats 400000 in
theorem free39_nil (w : World) : Calls Try.prog 39 #[.pointer none] w fun e w' => e = .returned (valM 0) ∧ Fr (fun _ => False) w w' := by
  have hz := Blk.new w 33 #[.int .u64 0, .int .u64 0, .int .u64 0, .int .u64 0]
  have z0 := fun i => hz.cell i
  go_enter Try.func39, Try.ntmps39
  go_wp2
  (try simp only [Exit.inBlock, Exit.then])
  refine bodyPost_ret (v := .agg #[.int .u64 0, .int .u64 0, .int .u64 0, .int .u64 0]) ?_ rfl ⟨by rw [valM, zero_cells], (Fr.refl _ w).alloc _⟩
  rw [results_cell1 rfl]
  go_simp

end Go.Proofs.Ytcefadbnmpjeiaa

/-
  The program's pool: Owners.
-/
namespace Go.Proofs.Ytcefadbnmpjeiaa
open Go.RowKit Go.Maps Go.Sort Go.Shelf

theorem own_of_map {P : Program} {k : TypeId} {w : World} {b : Nat} {L : List (Lit × Value)} (h : MapL P k w b L) :
    ∃ D0 : DataW Value, w.ownsMap P k rawR b L.length D0 ∧ (intKeys D0).Perm (L.map fun p => Go.intOf p.1) := by
  obtain ⟨es, clock, hb, F, hp⟩ := h
  have e1 : es.size = L.length := by simpa using hp.length_eq
  refine ⟨_, ⟨es, clock, hb, F, Nat.le_of_eq e1, rfl⟩, ?_⟩
  have h1 := ((WideShapes.sorted_perm _).trans hp).map (fun p : Lit × DataW Value => Go.intOf p.1)
  rw [List.map_map] at h1
  exact h1

/-- The owners, sorted. -/
def ownersS (H : List (Int × HoldD)) : List Int := (H.map (·.1)).mergeSort (fun x y => decide (x ≤ y))

theorem sort_perm {l l' : List Int} (h : l.Perm l') : l.mergeSort (fun x y => decide (x ≤ y)) = l'.mergeSort (fun x y => decide (x ≤ y)) := by
  have tr : ∀ a b c : Int, decide (a ≤ b) = true → decide (b ≤ c) = true → decide (a ≤ c) = true := fun a b c h1 h2 => by simp only [decide_eq_true_eq] at *; omega
  have to : ∀ a b : Int, (decide (a ≤ b) || decide (b ≤ a)) = true := fun a b => by simp only [Bool.or_eq_true, decide_eq_true_eq]; omega
  refine List.Perm.eq_of_pairwise (le := fun a b => decide (a ≤ b) = true) (fun a b _ _ h1 h2 => by simp only [decide_eq_true_eq] at h1 h2; omega) (List.pairwise_mergeSort tr to l) (List.pairwise_mergeSort tr to l') (((List.mergeSort_perm l _).trans h).trans (List.mergeSort_perm l' _).symm)

set_option maxHeartbeats 1000000 in
theorem owners41_s (w : World) (b m : Nat) (l : LayD) (H : List (Int × HoldD)) (h : PoolAt w b m l H) :
    Calls Try.prog 41 #[.pointer (some ⟨b, 0, none⟩)] w fun e w' => ∃ (v : Value) (ss : List Int), e = .returned v ∧ ss.Perm (H.map (·.1)) ∧
      w'.ownsRow w.heap.size 3 1 v ss.length ((ss.mergeSort (fun x y => decide (x ≤ y))).map encZ) ∧ (v = .slice none 0 0 ↔ ss = []) ∧ Below w.heap.size w w' := by
  have c0 : w.cell? ⟨b, 2, none⟩ = some (.map (some m)) := h.blk.cell 2
  obtain ⟨D0, hown, hperm⟩ := own_of_map h.map
  have hlen := h.len
  have hsz : Maps.size D0 ≤ 1000000 := by
    have hl := hperm.length_eq
    obtain ⟨es, clock, _, _, _, hD⟩ := hown
    subst hD
    simp only [intKeys, List.length_map] at hl
    simp only [Maps.size]
    omega
  have hbl := hown.lt
  have hmax : Maps.size D0 ≤ maxLen := by unfold maxLen; omega
  have hbytes : Maps.size D0 * 8 ≤ 140737488355328 := by omega
  refine (callsIn_wide (n := 6)).1 ?_
  have hseq : SeqGives Fence.wide 2 Try.prog 86 #[.pointer (some ⟨w.heap.size, 0, none⟩)] encZ (fun ss => ss.Perm (intKeys D0)) (Maps.size D0) (w.alloc (.cells #[.map (some m)] 104)) :=
    AnyZI.keys_gives (ρ := Try.keysJ_ren) { Try.keysJ with } Fence.wide _ trivial rfl (by omega) w.heap.size m _ D0 _ (by simp) (by simp) (by
      obtain ⟨es, clock, hb, Ft, hs, hD⟩ := hown
      exact ⟨es, clock, (Below.heap_alloc _ _ m hbl).trans hb, Ft, hs, hD⟩)
  have cK : ∀ mb W, CallsIn Fence.wide 5 Try.prog 73 #[.map mb] W fun e w' => e = .returned (.func (.func 86) #[] #[.pointer (some ⟨W.heap.size, 0, none⟩)]) ∧ w' = W.alloc (.cells #[.map mb] 104) := fun mb W => AnyZI.keys_in Try.keysJ Fence.wide 5 trivial rfl mb W
  have cS := AnyZI.sorted_in Try.sortedJ Fence.wide 5 trivial trivial trivial trivial rfl (by omega) (sortsJ _) (enters_of Try.func85 (by kernel_rfl) rfl) 86 #[.pointer (some ⟨w.heap.size, 0, none⟩)] trivial (enters_of Try.func86 (by kernel_rfl) rfl) _ _ hmax hbytes _ hseq
  change CallsIn _ _ Try.prog 72 _ _ _ at cS
  have hfK : Fence.wide.fn 73 := trivial
  have hfS : Fence.wide.fn 72 := trivial
  refine callsIn_of_wp Try.func41 rfl trivial ?_ rfl
  simp only [Try.ntmps41, List.size_toArray, List.length_cons, List.length_nil, Nat.reduceAdd, Nat.reduceSub, Array.replicate_succ, Array.replicate_zero, List.push_toArray, List.append_toArray, List.nil_append, List.cons_append]
  gi_wp2_with (first
    | (gi_at_call 73; refine (cK _ _).mono ?_; rintro e w' ⟨rfl, rfl⟩)
    | (gi_at_call 72; refine cS.mono ?_; rintro e w' ⟨v, ss, rfl, hS, hrow, hnil, hb⟩))
  go_ret
  rw [List.map_map] at hperm
  exact ⟨v, ss, rfl, hS.trans hperm, ownsRow_base_a' hrow (by simp), hnil, ((RowKit.Below.refl _ w).alloc (Nat.le_refl _) _).trans (hb.mono (by simp))⟩

theorem ownersS_length (H : List (Int × HoldD)) : (ownersS H).length = H.length := by simp [ownersS]

theorem owners41_any (w : World) (b m : Nat) (l : LayD) (H : List (Int × HoldD)) (h : PoolAt w b m l H) :
    Calls Try.prog 41 #[.pointer (some ⟨b, 0, none⟩)] w fun e w' => ∃ (v : Value), e = .returned v ∧ w'.ownsRow w.heap.size 3 1 v (ownersS H).length ((ownersS H).map encI) ∧ Fr (fun _ => False) w w' := by
  refine (owners41_s w b m l H h).mono ?_
  rintro e w' ⟨v, ss, rfl, hp, hrow, hnil, hb⟩
  have e1 : ss.mergeSort (fun x y => decide (x ≤ y)) = ownersS H := sort_perm hp
  have e2 : ss.length = (ownersS H).length := by rw [ownersS_length, hp.length_eq, List.length_map]
  rw [e1, e2] at hrow
  exact ⟨v, rfl, hrow, Fr.of_below hb⟩

set_option maxHeartbeats 400000 in
theorem owners41_nil (w : World) : Calls Try.prog 41 #[.pointer none] w fun e w' => e = .returned (.slice none 0 0) ∧ Fr (fun _ => False) w w' := by
  go_enter Try.func41, Try.ntmps41
  go_wp2
  go_ret
  exact ⟨rfl, Fr.refl _ _⟩

end Go.Proofs.Ytcefadbnmpjeiaa

/-
  The program's pool: Reserve.
-/
namespace Go.Proofs.Ytcefadbnmpjeiaa
open Go.RowKit Go.Maps

/-- The masks together. -/
def orAll (Ms : List Nat) : Nat := Ms.foldl orM 0
theorem orAll_take {Ms : List Nat} {k : Nat} (hk : k < Ms.length) : orAll (Ms.take (k + 1)) = orM (orAll (Ms.take k)) (Ms[k]'hk) := by
  unfold orAll
  rw [List.take_succ_eq_append_getElem hk, List.foldl_append]
  rfl

def wishP (x : WishD) (F : Nat) : WishD := ⟨F, x.ranks, x.per, x.dist⟩

def reserveP (l : LayD) (H : List (Int × HoldD)) (n : Int) (x : WishD) : (List Nat × Int) × List (Int × HoldD) :=
  if freshE H n = 0 then
    (if (assignP l (wishP x (freeP l H))).2 = 0 then (assignP l (wishP x (freeP l H)), putH H n (orAll (assignP l (wishP x (freeP l H))).1, false))
     else (([], (assignP l (wishP x (freeP l H))).2), H))
  else (([], freshE H n), H)

theorem Blk.setM5 {w : World} {g : Nat} {t : TypeId} {a0 a1 a2 a3 d : Value} (h : Blk w g t #[a0, a1, a2, a3, d]) (M : Nat) :
    Blk ((((w.setCell ⟨g, 0, none⟩ (.int .u64 (wordM M 0 : Nat))).setCell ⟨g, 1, none⟩ (.int .u64 (wordM M 1 : Nat))).setCell ⟨g, 2, none⟩ (.int .u64 (wordM M 2 : Nat))).setCell ⟨g, 3, none⟩ (.int .u64 (wordM M 3 : Nat))) g t #[.int .u64 (wordM M 0 : Nat), .int .u64 (wordM M 1 : Nat), .int .u64 (wordM M 2 : Nat), .int .u64 (wordM M 3 : Nat), d] := by
  have := (((h.set_ 0 (.int .u64 (wordM M 0 : Nat))).set_ 1 (.int .u64 (wordM M 1 : Nat))).set_ 2 (.int .u64 (wordM M 2 : Nat))).set_ 3 (.int .u64 (wordM M 3 : Nat))
  simpa using this
theorem Blk.setM7 {w : World} {g : Nat} {t : TypeId} {a0 a1 a2 a3 d e f : Value} (h : Blk w g t #[a0, a1, a2, a3, d, e, f]) (M : Nat) :
    Blk ((((w.setCell ⟨g, 0, none⟩ (.int .u64 (wordM M 0 : Nat))).setCell ⟨g, 1, none⟩ (.int .u64 (wordM M 1 : Nat))).setCell ⟨g, 2, none⟩ (.int .u64 (wordM M 2 : Nat))).setCell ⟨g, 3, none⟩ (.int .u64 (wordM M 3 : Nat))) g t #[.int .u64 (wordM M 0 : Nat), .int .u64 (wordM M 1 : Nat), .int .u64 (wordM M 2 : Nat), .int .u64 (wordM M 3 : Nat), d, e, f] := by
  have := (((h.set_ 0 (.int .u64 (wordM M 0 : Nat))).set_ 1 (.int .u64 (wordM M 1 : Nat))).set_ 2 (.int .u64 (wordM M 2 : Nat))).set_ 3 (.int .u64 (wordM M 3 : Nat))
  simpa using this

theorem MapL.setM {P : Program} {k : TypeId} {w : World} {b g : Nat} {L : List (Lit × Value)} (h : MapL P k w b L) (hne : b ≠ g) (u0 u1 u2 u3 : Value) :
    MapL P k ((((w.setCell ⟨g, 0, none⟩ u0).setCell ⟨g, 1, none⟩ u1).setCell ⟨g, 2, none⟩ u2).setCell ⟨g, 3, none⟩ u3) b L :=
  (((h.setCell (a := ⟨g, 0, none⟩) hne u0).setCell (a := ⟨g, 1, none⟩) hne u1).setCell (a := ⟨g, 2, none⟩) hne u2).setCell (a := ⟨g, 3, none⟩) hne u3
theorem PoolAt.setM {w : World} {b m g : Nat} {l : LayD} {H : List (Int × HoldD)} (h : PoolAt w b m l H) (hb : b ≠ g) (hm : m ≠ g) (u0 u1 u2 u3 : Value) :
    PoolAt ((((w.setCell ⟨g, 0, none⟩ u0).setCell ⟨g, 1, none⟩ u1).setCell ⟨g, 2, none⟩ u2).setCell ⟨g, 3, none⟩ u3) b m l H :=
  ⟨h.blk.farM hb _ _ _ _, h.map.setM hm _ _ _ _, h.wf, h.len⟩

/-- Behind the store into the map. -/
theorem PoolAt.put {w w2 : World} {b m : Nat} {l : LayD} {H : List (Int × HoldD)} (h : PoolAt w b m l H) (hH : H.length < 100000) {n : Int} (hn : wf64 n) {e : HoldD}
    (hm2 : MapL Try.prog 3 w2 m ((Lit.int .i64 n, holdV e) :: (H.map hP).filter (fun p => !p.1.sameKey (Lit.int .i64 n)))) (hg2 : w.grownBy w2 (some m)) : PoolAt w2 b m l (putH H n e) := by
  rw [putH_map] at hm2
  refine ⟨h.blk.grown hg2 (fun e => h.map.ne_blk h.blk (Option.some.inj e).symm), hm2, ?_, ?_⟩
  · intro p hp
    rcases List.mem_cons.1 hp with rfl | hp
    · exact hn
    · exact h.wf p (List.mem_filter.1 hp).1
  · have := List.length_filter_le (fun p : Int × HoldD => p.1 != n) H
    simp only [putH, List.length_cons]
    omega

set_option maxRecDepth 20000 in
set_option maxHeartbeats 2000000 in
theorem reserve46_any (w : World) (b m : Nat) (l : LayD) (H : List (Int × HoldD)) (h : PoolAt w b m l H) (n : Int) (hn : wf64 n) (x : WishD) (hH : H.length < 100000) (res : (List Nat × Int) × List (Int × HoldD)) (hres : Hid (res = reserveP l H n x)) :
    Calls Try.prog 46 #[.pointer (some ⟨b, 0, none⟩), .int .i64 n, x.val] w fun e w' => ∃ v, e = .returned (.tuple #[v, .int .i64 res.1.2]) ∧ w'.ownsRow w.heap.size 33 4 v res.1.1.length (flatM res.1.1) ∧ PoolAt w' b m l res.2 ∧ Fr (fun i => i = m) w w' := by
  have HF := Lib.hid ((Fr.refl (fun _ => False) w).alloc (.cells x.cells 50))
  have HX := Lib.hid (Blk.new w 50 x.cells)
  have hp0 := h.fr0 HF.out
  have h76 := fresh76_any _ b m l H hp0 n hn
  have HP0 := Lib.hid hp0
  have hbl := h.blk.lt
  have hml := h.map.lt
  unfold reserveP at hres
  have h39 := fun W (hW : PoolAt W b m l H) => free39_any W b m l H hW
  have h24 := fun W => assign24_any l (wishP x (freeP l H)) W
  have hlen : (assignP l (wishP x (freeP l H))).1.length ≤ 32 := by rw [assign_ref]; exact refP_len _ _
  obtain ⟨F, hF⟩ : ∃ F, freeP l H = F := ⟨_, rfl⟩
  simp only [hF] at h39 h24 hlen hres
  clear hF
  generalize freshE H n = fe at *
  generalize hA : assignP l (wishP x F) = A at *
  obtain ⟨Ms, ae⟩ := A
  clear hA
  obtain ⟨F0, r, q, d⟩ := x
  simp only [wishP, WishD.val, WishD.cells] at *
  by_cases hf : fe = 0
  · subst hf
    rw [if_pos rfl] at hres
    by_cases ha : ae = 0
    · subst ha
      rw [if_pos rfl] at hres
      obtain ⟨s, p⟩ := l
      simp only [LayD.val, valM, Ytcefadbnmpjeiaa.cellsM] at *
      have H76 := Lib.hid h76
      have H39 := Lib.hid h39
      have H24 := Lib.hid h24
      clear h76 h39 h24 hp0 h
      go_enter Try.func46, Try.ntmps46
      go_wp2_with fail
      refine H76.out.mono ?_
      rintro e w1 ⟨rfl, hf1⟩
      have HF1 := Lib.hid (HF.out.then hf1)
      have HP1 := Lib.hid (HP0.out.fr0 hf1)
      have HX1 := Lib.hid (HX.out.fr hf1 (fun h => h))
      go_wp2_with fail
      refine (H39.out _ HP1.out).mono ?_
      rintro e w2 ⟨rfl, hf2⟩
      have HF2 := Lib.hid (HF1.out.then hf2)
      have HP2 := Lib.hid (HP1.out.fr0 hf2)
      have hX2 := HX1.out.fr hf2 (fun h => h)
      have HX2 := Lib.hid hX2
      obtain ⟨f0, f1, f2, f3⟩ := hX2.frozenM
      have y := fun i => hX2.cell i
      clear hX2
      go_wp2_with fail
      clear y f0 f1 f2 f3
      have hX3 := HX2.out.setM7 F
      have hP3 := HP2.out.setM (g := w.heap.size) (by omega) (by omega) (.int .u64 (wordM F 0 : Nat)) (.int .u64 (wordM F 1 : Nat)) (.int .u64 (wordM F 2 : Nat)) (.int .u64 (wordM F 3 : Nat))
      have hF3 := HF2.out.setM (g := w.heap.size) (Or.inr (Nat.le_refl _)) (.int .u64 (wordM F 0 : Nat)) (.int .u64 (wordM F 1 : Nat)) (.int .u64 (wordM F 2 : Nat)) (.int .u64 (wordM F 3 : Nat))
      generalize hw3 : ((((w2.setCell ⟨w.heap.size, 0, none⟩ (.int .u64 (wordM F 0 : Nat))).setCell ⟨w.heap.size, 1, none⟩ (.int .u64 (wordM F 1 : Nat))).setCell ⟨w.heap.size, 2, none⟩ (.int .u64 (wordM F 2 : Nat))).setCell ⟨w.heap.size, 3, none⟩ (.int .u64 (wordM F 3 : Nat))) = w3 at hX3 hP3 hF3 ⊢
      clear hw3
      have l0 := Later.cell (hX3.cell 0)
      have l1 := Later.cell (hX3.cell 1)
      have l2 := Later.cell (hX3.cell 2)
      have l3 := Later.cell (hX3.cell 3)
      have l4 := Later.cell (hX3.cell 4)
      have l5 := Later.cell (hX3.cell 5)
      have l6 := Later.cell (hX3.cell 6)
      have m0 := Later.cell (hP3.blk.cell 0)
      have m1 := Later.cell (hP3.blk.cell 1)
      have HP3 := Lib.hid hP3
      have HF3 := Lib.hid hF3
      clear hX3 hP3 hF3
      refine wp_region_mid w3 5 0 (by kernel_rfl) (by kernel_rfl) (Fr.refl _ _) ?_
      simp only [List.take_succ_cons, List.take_zero, List.drop_succ_cons, List.drop_zero, Nat.reduceAdd]
      repeat (go_big_quiet_step (fail))
      refine wpQuiet_nil ?_
      rintro _ ⟨dd, rfl⟩
      clear l0 l1 l2 l3 l4 l5 l6 m0 m1
      go_wp2_with fail
      refine (H24.out _).mono ?_
      rintro e w4' ⟨v, rfl, hrow', hf4'⟩
      go_wp2_with fail
      simp only [Mid]
      repeat (go_big_quiet_step (fail))
      refine wpQuiet_nil ?_
      rintro _ ⟨d4, rfl⟩
      have hf4 := hf4'.then d4.fr
      have hrow := ownsRow_fr hrow' d4.fr (fun _ _ h => h)
      clear hf4' hrow'
      generalize d4.val = w4 at *
      have hf34 := dd.fr.then hf4
      have HP4 := Lib.hid (HP3.out.fr0 hf34)
      have HF4 := Lib.hid (HF3.out.then hf34)
      have hdz := HF3.out.size
      have hddz := dd.fr.size
      obtain ⟨A', cap', rfl⟩ := row_shape hrow
      have HROW := Lib.hid hrow
      clear hrow hf34 hf4
      go_wp2_with fail
      have HZ := Lib.hid (Blk.new w4 112 #[.int .u64 0, .int .u64 0, .int .u64 0, .int .u64 0, .bool false])
      go_loopw [37] (fun i wr => ∃ k : Nat, k ≤ Ms.length ∧ i = .int .i64 k ∧ Blk wr w4.heap.size 112 #[.int .u64 (wordM (orAll (Ms.take k)) 0 : Nat), .int .u64 (wordM (orAll (Ms.take k)) 1 : Nat), .int .u64 (wordM (orAll (Ms.take k)) 2 : Nat), .int .u64 (wordM (orAll (Ms.take k)) 3 : Nat), .bool false] ∧ Fr (fun _ => False) w4 wr) (fun i _ => Ms.length - (intOf i).toNat)
      case atStart => exact ⟨0, Nat.zero_le _, rfl, by simpa [orAll, wordM] using HZ.out, (Fr.refl _ _).alloc _⟩
      case round =>
        obtain ⟨k, hk, rfl, hB, hfr⟩ := hrel
        by_cases hlt : k < Ms.length
        · obtain ⟨B, cp, hv, hc⟩ := (MsV.of_row HROW.out).fr0 hfr
          cases hv
          obtain ⟨g, off, rfl, c⟩ := hc k hlt
          obtain ⟨c0, c1, c2, c3⟩ := MsV.at4 c
          have hst := orAll_take hlt
          have h30 := fun W => or_any (orAll (Ms.take k)) Ms[k] W
          have HBl := Lib.hid (hB.alloc (.cells #[.int .u64 (wordM Ms[k] 0 : Nat), .int .u64 (wordM Ms[k] 1 : Nat), .int .u64 (wordM Ms[k] 2 : Nat), .int .u64 (wordM Ms[k] 3 : Nat)] 33))
          have HFl := Lib.hid (hfr.alloc (.cells #[.int .u64 (wordM Ms[k] 0 : Nat), .int .u64 (wordM Ms[k] 1 : Nat), .int .u64 (wordM Ms[k] 2 : Nat), .int .u64 (wordM Ms[k] 3 : Nat)] 33))
          generalize Ms[k] = M at *
          generalize orAll (Ms.take k) = O at *
          rw [← hst] at h30
          obtain ⟨O', hO⟩ : ∃ O', O' = orAll (Ms.take (k + 1)) := ⟨_, rfl⟩
          rw [← hO] at h30
          have HO := Lib.hid hO
          clear hO
          have y0 := hB.cell 0
          have y1 := hB.cell 1
          have y2 := hB.cell 2
          have y3 := hB.cell 3
          simp only [List.getElem?_toArray, List.getElem?_cons_zero, List.getElem?_cons_succ] at y0 y1 y2 y3
          simp only [valM, Ytcefadbnmpjeiaa.cellsM] at h30
          have hBlt := hB.lt
          have H30 := Lib.hid h30
          clear h30 hst c hc hB hfr
          go_wp2_with fail
          refine (H30.out _).mono ?_
          rintro e w5 ⟨rfl, hf5⟩
          clear c0 c1 c2 c3 y0 y1 y2 y3
          have hB5 := HBl.out.fr hf5 (fun h => h)
          have HB5 := Lib.hid hB5
          have HF5 := Lib.hid (HFl.out.then hf5)
          obtain ⟨f0, f1, f2, f3⟩ := hB5.frozenM
          have y := fun i => hB5.cell i
          clear hB5 hf5
          go_wp2_with fail
          go_roundw
          case rel => exact ⟨k + 1, by omega, by go_num, by rw [← HO.out]; exact HB5.out.setM5 O', HF5.out.setM (Or.inr (Nat.le_refl _)) _ _ _ _⟩
          case measure => simp [intOf]; omega
        · obtain rfl : k = Ms.length := by omega
          rw [List.take_length] at hB
          generalize orAll Ms = O at *
          obtain rfl := hres.out
          have hPr := HP4.out.fr0 hfr
          have l0 := Later.cell (hB.cell 0)
          have l1 := Later.cell (hB.cell 1)
          have l2 := Later.cell (hB.cell 2)
          have l3 := Later.cell (hB.cell 3)
          have l4 := Later.cell (hB.cell 4)
          have m2 := Later.cell (hPr.blk.cell 2)
          have HPr := Lib.hid hPr
          have HFr := Lib.hid (HF4.out.then hfr)
          have HRr := Lib.hid (ownsRow_fr HROW.out hfr (fun _ _ h => h))
          clear hB hPr hfr
          go_wp2_with fail
          refine wp_region_later_tail wr 6 (by kernel_rfl) (by kernel_rfl) (Fr.refl _ _) ?_
          simp only [List.take_succ_cons, List.take_zero, List.drop_succ_cons, List.drop_zero]
          repeat (go_big_quiet_step (fail))
          refine wpQuiet_nil ?_
          rintro _ ⟨d6, rfl⟩
          have HP6 := Lib.hid (HPr.out.fr0 d6.fr)
          have HF6 := Lib.hid (HFr.out.then d6.fr)
          have HR6 := Lib.hid (ownsRow_fr HRr.out d6.fr (fun _ _ h => h))
          clear l0 l1 l2 l3 l4 m2
          go_wp2_with (at_mapUpdate; refine wpList_mapStore rfl _ _ _ 104 rfl 112 law3 Try.underlying104 rfl HP6.out.map (by rw [List.length_map]; unfold maxLen; omega) (.int .i64 n) (holdV (O, false)) (.int .i64 n) rfl rfl (key3 hn) ?_; intro w7 hm7 hg7)
          go_ret2
          refine ⟨_, rfl, ?_, HP6.out.put hH hn hm7 hg7, (HF6.out.mono (S' := fun i => i = m) (fun _ _ h => h.elim)).then (Fr.of_grown hg7 fun k e => (Option.some.inj e).symm)⟩
          exact ownsRow_base_a' (ownsRow_fr HR6.out (Fr.of_grown (S := fun i => i = m) hg7 fun k e => (Option.some.inj e).symm) (fun k hk e => by
            subst e
            obtain ⟨cur, hc⟩ := ownsRow_block HR6.out hk
            exact HP6.out.map.no_cells hc)) (Nat.le_trans hdz hddz)
    · rw [if_neg ha] at hres
      obtain ⟨s, p⟩ := l
      simp only [LayD.val, valM, Ytcefadbnmpjeiaa.cellsM] at *
      have H76 := Lib.hid h76
      have H39 := Lib.hid h39
      have H24 := Lib.hid h24
      clear h76 h39 h24 hp0 h
      go_enter Try.func46, Try.ntmps46
      go_wp2_with fail
      refine H76.out.mono ?_
      rintro e w1 ⟨rfl, hf1⟩
      have HF1 := Lib.hid (HF.out.then hf1)
      have HP1 := Lib.hid (HP0.out.fr0 hf1)
      have HX1 := Lib.hid (HX.out.fr hf1 (fun h => h))
      go_wp2_with fail
      refine (H39.out _ HP1.out).mono ?_
      rintro e w2 ⟨rfl, hf2⟩
      have HF2 := Lib.hid (HF1.out.then hf2)
      have HP2 := Lib.hid (HP1.out.fr0 hf2)
      have hX2 := HX1.out.fr hf2 (fun h => h)
      have HX2 := Lib.hid hX2
      obtain ⟨f0, f1, f2, f3⟩ := hX2.frozenM
      have y := fun i => hX2.cell i
      clear hX2
      go_wp2_with fail
      clear y f0 f1 f2 f3
      have hX3 := HX2.out.setM7 F
      have hP3 := HP2.out.setM (g := w.heap.size) (by omega) (by omega) (.int .u64 (wordM F 0 : Nat)) (.int .u64 (wordM F 1 : Nat)) (.int .u64 (wordM F 2 : Nat)) (.int .u64 (wordM F 3 : Nat))
      have hF3 := HF2.out.setM (g := w.heap.size) (Or.inr (Nat.le_refl _)) (.int .u64 (wordM F 0 : Nat)) (.int .u64 (wordM F 1 : Nat)) (.int .u64 (wordM F 2 : Nat)) (.int .u64 (wordM F 3 : Nat))
      generalize hw3 : ((((w2.setCell ⟨w.heap.size, 0, none⟩ (.int .u64 (wordM F 0 : Nat))).setCell ⟨w.heap.size, 1, none⟩ (.int .u64 (wordM F 1 : Nat))).setCell ⟨w.heap.size, 2, none⟩ (.int .u64 (wordM F 2 : Nat))).setCell ⟨w.heap.size, 3, none⟩ (.int .u64 (wordM F 3 : Nat))) = w3 at hX3 hP3 hF3 ⊢
      clear hw3
      have l0 := Later.cell (hX3.cell 0)
      have l1 := Later.cell (hX3.cell 1)
      have l2 := Later.cell (hX3.cell 2)
      have l3 := Later.cell (hX3.cell 3)
      have l4 := Later.cell (hX3.cell 4)
      have l5 := Later.cell (hX3.cell 5)
      have l6 := Later.cell (hX3.cell 6)
      have m0 := Later.cell (hP3.blk.cell 0)
      have m1 := Later.cell (hP3.blk.cell 1)
      have HP3 := Lib.hid hP3
      have HF3 := Lib.hid hF3
      clear hX3 hP3 hF3
      refine wp_region_mid w3 5 0 (by kernel_rfl) (by kernel_rfl) (Fr.refl _ _) ?_
      simp only [List.take_succ_cons, List.take_zero, List.drop_succ_cons, List.drop_zero, Nat.reduceAdd]
      repeat (go_big_quiet_step (fail))
      refine wpQuiet_nil ?_
      rintro _ ⟨dd, rfl⟩
      clear l0 l1 l2 l3 l4 l5 l6 m0 m1
      go_wp2_with fail
      refine (H24.out _).mono ?_
      rintro e w4' ⟨v, rfl, hrow', hf4'⟩
      go_wp2_with fail
      simp only [Mid]
      repeat (go_big_quiet_step (fail))
      refine wpQuiet_nil ?_
      rintro _ ⟨d4, rfl⟩
      have hf4 := hf4'.then d4.fr
      have hrow := ownsRow_fr hrow' d4.fr (fun _ _ h => h)
      clear hf4' hrow'
      generalize d4.val = w4 at *
      have hf34 := dd.fr.then hf4
      have HP4 := Lib.hid (HP3.out.fr0 hf34)
      have HF4 := Lib.hid (HF3.out.then hf34)
      have hdz := HF3.out.size
      have hddz := dd.fr.size
      obtain rfl := hres.out
      have HROW := Lib.hid hrow
      have a1 : (ae != 0) = true := by simpa using ha
      clear hrow hf34 hf4
      go_wp2_with fail
      go_ret2
      exact ⟨_, rfl, World.ownsRow_nil _ _ _ _, HP4.out, HF4.out.mono (fun _ _ h => h.elim)⟩
  · rw [if_neg hf] at hres
    obtain rfl := hres.out
    have a1 : (fe != 0) = true := by simpa using hf
    have H76 := Lib.hid h76
    clear h76 h39 h24 hp0 h
    go_enter Try.func46, Try.ntmps46
    go_wp2_with fail
    refine H76.out.mono ?_
    rintro e w1 ⟨rfl, hf1⟩
    go_wp2_with fail
    go_ret2
    exact ⟨_, rfl, World.ownsRow_nil _ _ _ _, HP0.out.fr0 hf1, (HF.out.then hf1).mono (fun _ _ h => h.elim)⟩

end Go.Proofs.Ytcefadbnmpjeiaa

/-
  The program's pool: Take.
-/
namespace Go.Proofs.Ytcefadbnmpjeiaa
open Go.RowKit Go.Maps

def takeP (l : LayD) (H : List (Int × HoldD)) (n : Int) (M : Nat) : Int × List (Int × HoldD) :=
  if freshE H n = 1 then (1, H)
  else if M = 0 then (1, H)
  else if freshE H n = 0 then (if minusM M (freeP l H) = 0 then (0, putH H n (M, true)) else (12, H))
  else (freshE H n, H)

theorem minusM_lt {M : Nat} (h : M < 2 ^ 256) (N : Nat) : minusM M N < 2 ^ 256 := by
  refine Nat.lt_pow_two_of_testBit _ fun n hn => ?_
  unfold minusM
  rw [Nat.testBit_xor, Nat.testBit_and, Nat.testBit_lt_two_pow (Nat.lt_of_lt_of_le h (Nat.pow_le_pow_right (by decide) hn))]
  rfl

set_option maxRecDepth 20000 in
set_option maxHeartbeats 2000000 in
theorem take47_any (w : World) (b m : Nat) (l : LayD) (H : List (Int × HoldD)) (h : PoolAt w b m l H) (n : Int) (hn : wf64 n) (M : Nat) (hM : M < 2 ^ 256) (hH : H.length < 100000) (res : Int × List (Int × HoldD)) (hres : Hid (res = takeP l H n M)) :
    Calls Try.prog 47 #[.pointer (some ⟨b, 0, none⟩), .int .i64 n, valM M] w fun e w' => e = .returned (.int .i64 res.1) ∧ PoolAt w' b m l res.2 ∧ Fr (fun i => i = m) w w' := by
  have HF := Lib.hid ((Fr.refl (fun _ => False) w).alloc (.cells #[.int .u64 (wordM M 0 : Nat), .int .u64 (wordM M 1 : Nat), .int .u64 (wordM M 2 : Nat), .int .u64 (wordM M 3 : Nat)] 33))
  have HX := Lib.hid (Blk.new w 33 #[.int .u64 (wordM M 0 : Nat), .int .u64 (wordM M 1 : Nat), .int .u64 (wordM M 2 : Nat), .int .u64 (wordM M 3 : Nat)])
  have hp0 := h.fr0 HF.out
  have h76 := fresh76_any _ b m l H hp0 n hn
  have HP0 := Lib.hid hp0
  have hbl := h.blk.lt
  have hml := h.map.lt
  unfold takeP at hres
  have h39 := fun W (hW : PoolAt W b m l H) => free39_any W b m l H hW
  obtain ⟨F, hF⟩ : ∃ F, freeP l H = F := ⟨_, rfl⟩
  simp only [hF] at h39 hres
  clear hF
  have h33 := fun W => minus_any M F W
  have hq0 := fun W => eq_masks (M := M) (M' := 0) hM (by decide) 33 Try.underlying33 W
  have hq1 := fun W => eq_masks (M := minusM M F) (M' := 0) (minusM_lt hM F) (by decide) 33 Try.underlying33 W
  simp only [valM, Ytcefadbnmpjeiaa.cellsM] at h39 h33
  simp only [valM, zero_cells] at hq0 hq1
  simp only [valM, Ytcefadbnmpjeiaa.cellsM] at hq0 hq1 ⊢
  generalize minusM M F = X at *
  generalize freshE H n = fe at *
  have H76 := Lib.hid h76
  have H39 := Lib.hid h39
  have H33 := Lib.hid h33
  clear h76 h39 h33 hp0 h
  by_cases hf1 : fe = 1
  · subst hf1
    rw [if_pos rfl] at hres
    obtain rfl := hres.out
    clear hq0 hq1
    go_enter Try.func47, Try.ntmps47
    go_wp2_with fail
    refine H76.out.mono ?_
    rintro e w1 ⟨rfl, hf1⟩
    go_wp2_with fail
    go_ret
    exact ⟨rfl, HP0.out.fr0 hf1, (HF.out.then hf1).mono (fun _ _ h => h.elim)⟩
  · rw [if_neg hf1] at hres
    have b1 : (fe == 1) = false := by simpa using hf1
    by_cases hM0 : M = 0
    · rw [if_pos hM0] at hres
      obtain rfl := hres.out
      rw [decide_eq_true hM0] at hq0
      clear hM0
      have HQ0 := Lib.hid hq0
      clear hq0 hq1
      go_enter Try.func47, Try.ntmps47
      go_wp2_with fail
      refine H76.out.mono ?_
      rintro e w1 ⟨rfl, hf1⟩
      have hX1 := HX.out.fr hf1 (fun h => h)
      have y := fun i => hX1.cell i
      have hq := HQ0.out
      clear hX1
      go_wp2_with fail
      go_ret
      exact ⟨rfl, HP0.out.fr0 hf1, (HF.out.then hf1).mono (fun _ _ h => h.elim)⟩
    · rw [if_neg hM0] at hres
      rw [decide_eq_false hM0] at hq0
      clear hM0
      have HQ0 := Lib.hid hq0
      clear hq0
      by_cases hf0 : fe = 0
      · subst hf0
        rw [if_pos rfl] at hres
        by_cases hX0 : X = 0
        · rw [if_pos hX0] at hres
          rw [decide_eq_true hX0] at hq1
          clear hX0
          obtain rfl := hres.out
          have HQ1 := Lib.hid hq1
          clear hq1
          go_enter Try.func47, Try.ntmps47
          go_wp2_with fail
          refine H76.out.mono ?_
          rintro e w1 ⟨rfl, hf1⟩
          have hX1 := HX.out.fr hf1 (fun h => h)
          have y := fun i => hX1.cell i
          have hq := HQ0.out
          have HX1 := Lib.hid hX1
          have HP1 := Lib.hid (HP0.out.fr0 hf1)
          have HF1 := Lib.hid (HF.out.then hf1)
          clear hX1 hf1
          go_wp2_with fail
          clear hq y
          have hq1 := HQ1.out
          have l0 := Later.cell (HX1.out.cell 0)
          have l1 := Later.cell (HX1.out.cell 1)
          have l2 := Later.cell (HX1.out.cell 2)
          have l3 := Later.cell (HX1.out.cell 3)
          have H39' := Lib.hid (fun (d : Later w1) => H39.out d.val (HP1.out.fr0 d.fr))
          refine wp_region_later w1 (by kernel_rfl) (by kernel_rfl) (Fr.refl _ _) ?_
          repeat (go_big_quiet_step (first
            | (go_at_call 39; exact later_call (H39'.out _))
            | (go_at_call 33; exact later_call (H33.out _))))
          refine wpQuiet_nil ?_
          rintro _ ⟨d2, rfl⟩
          have HX2 := Lib.hid (HX1.out.fr d2.fr (fun h => h))
          have HP2 := Lib.hid (HP1.out.fr0 d2.fr)
          have HF2 := Lib.hid (HF1.out.then d2.fr)
          clear l0 l1 l2 l3 hq1
          generalize d2.val = w2 at *
          go_wp2_with fail
          have l0 := Later.cell (HX2.out.cell 0)
          have l1 := Later.cell (HX2.out.cell 1)
          have l2 := Later.cell (HX2.out.cell 2)
          have l3 := Later.cell (HX2.out.cell 3)
          have l5 := Later.cell (HP2.out.blk.cell 2)
          refine wp_region_later_tail w2 7 (by kernel_rfl) (by kernel_rfl) (Fr.refl _ _) ?_
          simp only [List.take_succ_cons, List.take_zero, List.drop_succ_cons, List.drop_zero]
          repeat (go_big_quiet_step (fail))
          refine wpQuiet_nil ?_
          rintro _ ⟨d6, rfl⟩
          have HP6 := Lib.hid (HP2.out.fr0 d6.fr)
          have HF6 := Lib.hid (HF2.out.then d6.fr)
          clear l0 l1 l2 l3 l5
          go_wp2_with (at_mapUpdate; refine wpList_mapStore rfl _ _ _ 104 rfl 112 law3 Try.underlying104 rfl HP6.out.map (by rw [List.length_map]; unfold maxLen; omega) (.int .i64 n) (holdV (M, true)) (.int .i64 n) rfl rfl (key3 hn) ?_; intro w7 hm7 hg7)
          go_ret
          exact ⟨rfl, HP6.out.put hH hn hm7 hg7, (HF6.out.mono (S' := fun i => i = m) (fun _ _ h => h.elim)).then (Fr.of_grown hg7 fun k e => (Option.some.inj e).symm)⟩
        · rw [if_neg hX0] at hres
          rw [decide_eq_false hX0] at hq1
          clear hX0
          obtain rfl := hres.out
          have HQ1 := Lib.hid hq1
          clear hq1
          go_enter Try.func47, Try.ntmps47
          go_wp2_with fail
          refine H76.out.mono ?_
          rintro e w1 ⟨rfl, hf1⟩
          have hX1 := HX.out.fr hf1 (fun h => h)
          have y := fun i => hX1.cell i
          have hq := HQ0.out
          have HX1 := Lib.hid hX1
          have HP1 := Lib.hid (HP0.out.fr0 hf1)
          have HF1 := Lib.hid (HF.out.then hf1)
          clear hX1 hf1
          go_wp2_with fail
          clear hq y
          have hq1 := HQ1.out
          have l0 := Later.cell (HX1.out.cell 0)
          have l1 := Later.cell (HX1.out.cell 1)
          have l2 := Later.cell (HX1.out.cell 2)
          have l3 := Later.cell (HX1.out.cell 3)
          have H39' := Lib.hid (fun (d : Later w1) => H39.out d.val (HP1.out.fr0 d.fr))
          refine wp_region_later w1 (by kernel_rfl) (by kernel_rfl) (Fr.refl _ _) ?_
          repeat (go_big_quiet_step (first
            | (go_at_call 39; exact later_call (H39'.out _))
            | (go_at_call 33; exact later_call (H33.out _))))
          refine wpQuiet_nil ?_
          rintro _ ⟨d2, rfl⟩
          go_wp2_with fail
          go_ret
          exact ⟨rfl, HP1.out.fr0 d2.fr, (HF1.out.then d2.fr).mono (fun _ _ h => h.elim)⟩
      · rw [if_neg hf0] at hres
        obtain rfl := hres.out
        have b2 : (fe != 0) = true := by simpa using hf0
        clear hq1
        go_enter Try.func47, Try.ntmps47
        go_wp2_with fail
        refine H76.out.mono ?_
        rintro e w1 ⟨rfl, hf1⟩
        have hX1 := HX.out.fr hf1 (fun h => h)
        have y := fun i => hX1.cell i
        have hq := HQ0.out
        clear hX1
        go_wp2_with fail
        go_ret
        exact ⟨rfl, HP0.out.fr0 hf1, (HF.out.then hf1).mono (fun _ _ h => h.elim)⟩

theorem take47_nil (n : Int) (M : Nat) (w : World) : Calls Try.prog 47 #[.pointer none, .int .i64 n, valM M] w fun e w' => e = .returned (.int .i64 1) ∧ Fr (fun _ => False) w w' := by
  have HF := Lib.hid ((Fr.refl (fun _ => False) w).alloc (.cells #[.int .u64 (wordM M 0 : Nat), .int .u64 (wordM M 1 : Nat), .int .u64 (wordM M 2 : Nat), .int .u64 (wordM M 3 : Nat)] 33))
  have H76 := Lib.hid (fun W => fresh76_nil n W)
  simp only [valM, Ytcefadbnmpjeiaa.cellsM]
  go_enter Try.func47, Try.ntmps47
  go_wp2_with fail
  refine (H76.out _).mono ?_
  rintro e w1 ⟨rfl, hf1⟩
  go_wp2_with fail
  go_ret
  exact ⟨rfl, HF.out.then hf1⟩

theorem reserve46_nil (n : Int) (x : WishD) (w : World) : Calls Try.prog 46 #[.pointer none, .int .i64 n, x.val] w fun e w' => e = .returned (.tuple #[.slice none 0 0, .int .i64 1]) ∧ Fr (fun _ => False) w w' := by
  have HF := Lib.hid ((Fr.refl (fun _ => False) w).alloc (.cells x.cells 50))
  have H76 := Lib.hid (fun W => fresh76_nil n W)
  obtain ⟨F0, r, q, d⟩ := x
  simp only [WishD.val, WishD.cells] at *
  go_enter Try.func46, Try.ntmps46
  go_wp2_with fail
  refine (H76.out _).mono ?_
  rintro e w1 ⟨rfl, hf1⟩
  go_wp2_with fail
  go_ret2
  exact ⟨rfl, HF.out.then hf1⟩

end Go.Proofs.Ytcefadbnmpjeiaa
