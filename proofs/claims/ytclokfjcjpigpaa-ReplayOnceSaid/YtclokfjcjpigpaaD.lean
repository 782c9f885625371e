/-
  The program's cache: what each of its functions does, said of lists.
-/
import Derived.Test.YtclokfjcjpigpaaC
namespace Go.Proofs.Ytclokfjcjpigpaa
open Go.RowKit Go.Maps

def uP (p : PKey × Int) : Lit × Value := (plLit p.1, .int .i64 p.2)
def kP (p : Int × Int) : Lit × Value := (.int .i64 p.1, .int .i64 p.2)

structure CacheAt (w : World) (b m1 m2 : Nat) (most : Int) (U : List (PKey × Int)) (K : List (Int × Int)) : Prop where
  blk : Blk w b 57 #[.int .i64 most, .map (some m1), .map (some m2)]
  until_ : MapL Try.prog 60 w m1 (U.map uP)
  back : MapL Try.prog 3 w m2 (K.map kP)
  ne : m1 ≠ m2
  wfU : ∀ p ∈ U, p.1.wf ∧ wf64 p.2
  wfK : ∀ p ∈ K, wf64 p.1 ∧ wf64 p.2
  lenU : (U.length : Int) ≤ most
  le64 : most ≤ 64
  lenK : K.length ≤ 64

theorem CacheAt.fr {S : Nat → Prop} {w w' : World} {b m1 m2 : Nat} {most : Int} {U : List (PKey × Int)} {K : List (Int × Int)} (h : CacheAt w b m1 m2 most U K) (hf : Fr S w w') (hb : ¬ S b) (h1 : ¬ S m1) (h2 : ¬ S m2) : CacheAt w' b m1 m2 most U K :=
  ⟨h.blk.fr hf hb, h.until_.fr hf h1, h.back.fr hf h2, h.ne, h.wfU, h.wfK, h.lenU, h.le64, h.lenK⟩

set_option maxHeartbeats 400000 in
theorem new10_no (most : Int) (w : World) (h : most < 1 ∨ 64 < most) : Calls Try.prog 10 #[.int .i64 most] w fun e w' => e = .returned (.pointer none) ∧ w = w' := by
  rcases h with h | h
  · go_enter Try.func10, Try.ntmps10
    go_wp2
    go_ret
    exact ⟨rfl, rfl⟩
  · have h2 : ¬ most < 1 := by omega
    go_enter Try.func10, Try.ntmps10
    go_wp2
    go_ret
    exact ⟨rfl, rfl⟩

set_option maxHeartbeats 400000 in
theorem new10_yes (most : Int) (w : World) (h1 : 1 ≤ most) (h2 : most ≤ 64) : Calls Try.prog 10 #[.int .i64 most] w fun e w' =>
    e = .returned (.pointer (some ⟨w.heap.size + 2, 0, none⟩)) ∧ CacheAt w' (w.heap.size + 2) w.heap.size (w.heap.size + 1) most [] [] ∧ Fr (fun _ => False) w w' := by
  have hmm := @run_makeMap Try.prog
  go_enter Try.func10, Try.ntmps10
  go_wp2
  go_ret
  refine ⟨rfl, ⟨?_, ?_, ?_, by omega, by simp, by simp, by simp; omega, h2, by simp⟩, (((Fr.refl _ w).alloc _).alloc _).alloc _⟩
  · have := Blk.new ((w.alloc (.map #[] 0)).alloc (.map #[] 0)) 57 #[.int .i64 most, .map (some w.heap.size), .map (some (w.heap.size + 1))]
    simpa using this
  · exact ((MapL.made w Try.prog 60).alloc _).alloc _
  · have := (MapL.made (w.alloc (.map #[] 0)) Try.prog 3).alloc (.cells #[.int .i64 most, .map (some w.heap.size), .map (some (w.heap.size + 1))] 57)
    simpa using this

set_option maxHeartbeats 400000 in
theorem of_any (x : CredD) (w : World) : Calls Try.prog 23 #[x.val] w fun e w' => e = .returned (plVal (x.job, x.epoch, x.step)) ∧ Fr (fun _ => False) w w' := by
  obtain ⟨job, epoch, step, frm, unt, A, c, ns, cores⟩ := x
  simp only [CredD.val]
  go_enter Try.func23, Try.ntmps23
  go_wp2
  exact bodyPost_ret (v := plVal (job, epoch, step)) (by simp [results, Try.results23, go_sem, plVal]) rfl ⟨rfl, ((Fr.refl _ w).alloc _).alloc _⟩

set_option maxHeartbeats 400000 in
theorem len13_any (w : World) (b m1 m2 : Nat) (most : Int) (U : List (PKey × Int)) (K : List (Int × Int)) (h : CacheAt w b m1 m2 most U K) :
    Calls Try.prog 13 #[.pointer (some ⟨b, 0, none⟩)] w fun e w' => e = .returned (.int .i64 U.length) ∧ w = w' := by
  have c1 := h.blk.cell 1
  simp at c1
  have hl := h.until_.length Try.underlying54 3
  rw [List.length_map] at hl
  go_enter Try.func13, Try.ntmps13
  go_wp2
  go_ret
  exact ⟨rfl, rfl⟩

set_option maxHeartbeats 400000 in
theorem len13_nil (w : World) : Calls Try.prog 13 #[.pointer none] w fun e w' => e = .returned (.int .i64 0) ∧ w = w' := by
  go_enter Try.func13, Try.ntmps13
  go_wp2
  go_ret
  exact ⟨rfl, rfl⟩


def findU (U : List (PKey × Int)) (k : PKey) : Option Int := (U.find? (fun p => p.1 == k)).map (·.2)

theorem findU_some {U : List (PKey × Int)} {k : PKey} {u : Int} (h : findU U k = some u) : (plLit k, .int .i64 u) ∈ U.map uP := by
  unfold findU at h
  cases hf : U.find? (fun p => p.1 == k) with
  | none => rw [hf] at h; cases h
  | some p =>
    rw [hf] at h
    have h1 := List.mem_of_find?_eq_some hf
    have h2 := List.find?_some hf
    simp only [beq_iff_eq] at h2
    simp only [Option.map_some, Option.some.injEq] at h
    exact List.mem_map.2 ⟨p, h1, by simp [uP, h2, h]⟩
theorem findU_none {U : List (PKey × Int)} {k : PKey} (hw : ∀ p ∈ U, p.1.wf ∧ wf64 p.2) (hk : k.wf) (h : findU U k = none) : ∀ p ∈ U.map uP, p.1 ≠ plLit k := by
  intro p hp e
  obtain ⟨q, hq, rfl⟩ := List.mem_map.1 hp
  have h1 := plLit_inj (hw q hq).1 hk e
  unfold findU at h
  simp only [Option.map_eq_none_iff, List.find?_eq_none, beq_iff_eq] at h
  exact h q hq h1

def usedP (U : List (PKey × Int)) (k : PKey) (now : Int) : Bool := match findU U k with | some u => decide (now < u) | none => false

def CredD.key (x : CredD) : PKey := (x.job, x.epoch, x.step)
structure CredD.wf (x : CredD) : Prop where
  job : wf64 x.job
  epoch : wf64 x.epoch
  step : wf64 x.step
  frm : wf64 x.frm
  until_ : wf64 x.until_
  cores : wf64 x.cores

theorem CacheAt.lookU {w : World} {b m1 m2 : Nat} {most : Int} {U : List (PKey × Int)} {K : List (Int × Int)} (h : CacheAt w b m1 m2 most U K) {k : PKey} (hk : k.wf) :
    (Instr.lookup 54 (.map (some m1)) (plVal k) true).run Try.prog w = .ok (.tuple #[.int .i64 ((findU U k).getD 0), .bool (findU U k).isSome]) w := by
  cases hf : findU U k with
  | none =>
    rcases h.until_.look law60 Try.underlying54 (zero3 w) (key60 hk) true with ⟨v, h1, h2⟩ | ⟨h1, h2⟩
    · exact absurd rfl (findU_none h.wfU hk hf _ h1)
    · exact h2
  | some u =>
    have hm := findU_some hf
    rcases h.until_.look law60 Try.underlying54 (zero3 w) (key60 hk) true with ⟨v, h1, h2⟩ | ⟨h1, h2⟩
    · have := apart_uniq (h.until_.apart law60) h1 hm
      subst this
      exact h2
    · exact absurd rfl (h1 _ hm)

theorem usedP_eq (U : List (PKey × Int)) (k : PKey) (now : Int) : usedP U k now = ((findU U k).isSome && decide (now < (findU U k).getD 0)) := by
  unfold usedP
  cases findU U k <;> simp

theorem CredD.key_wf {x : CredD} (h : x.wf) : x.key.wf := ⟨h.job, h.epoch, h.step⟩

set_option maxHeartbeats 1000000 in
theorem used14_any (w : World) (b m1 m2 : Nat) (most : Int) (U : List (PKey × Int)) (K : List (Int × Int)) (h : CacheAt w b m1 m2 most U K) (x : CredD) (hx : x.wf) (now : Int) :
    Calls Try.prog 14 #[.pointer (some ⟨b, 0, none⟩), x.val, .int .i64 now] w fun e w' => e = .returned (.bool (usedP U x.key now)) ∧ Fr (fun _ => False) w w' := by
  have hc1 : ∀ W', Fr (fun _ => False) w W' → W'.cell? ⟨b, 1, none⟩ = some (.map (some m1)) := fun W' hf => (h.blk.fr hf (fun h => h)).cell 1
  have hlk : ∀ W', Fr (fun _ => False) w W' → _ := fun W' hf => (h.fr hf (fun h => h) (fun h => h) (fun h => h)).lookU (CredD.key_wf hx)
  rw [usedP_eq]
  generalize (findU U x.key).getD 0 = u at *
  generalize (findU U x.key).isSome = ok at *
  have c1 : ∀ o, (w.alloc o).cell? ⟨b, 1, none⟩ = some (.map (some m1)) := fun o => (h.blk.alloc o).cell 1
  have hof := fun W => of_any x W
  obtain ⟨job, epoch, step, frm, unt, A, c, ns, cores⟩ := x
  simp only [CredD.val, CredD.key] at *
  have HOF := Lib.hid hof
  have HC1 := Lib.hid hc1
  have HLK := Lib.hid hlk
  clear h hof hc1 hlk
  go_enter Try.func14, Try.ntmps14
  go_wp2
  go_region_with (go_at_call 23; refine (HOF.out _).mono ?_; rintro e w' ⟨rfl, hf⟩; have hf' := ((Fr.refl _ w).alloc _).drew.then hf; have e1 := HC1.out w' hf'; have e2 := HLK.out w' hf')
  all_goals (cases ok <;> go_wp2 <;> go_ret <;> exact ⟨by simp, hf'⟩)

set_option maxHeartbeats 400000 in
theorem used14_nil (w : World) (x : CredD) (now : Int) :
    Calls Try.prog 14 #[.pointer none, x.val, .int .i64 now] w fun e w' => e = .returned (.bool false) ∧ Fr (fun _ => False) w w' := by
  obtain ⟨job, epoch, step, frm, unt, A, c, ns, cores⟩ := x
  simp only [CredD.val]
  go_enter Try.func14, Try.ntmps14
  go_wp2
  go_ret
  exact ⟨rfl, (Fr.refl _ w).alloc _⟩

def findK (K : List (Int × Int)) (j : Int) : Option Int := (K.find? (fun p => p.1 == j)).map (·.2)

theorem findK_some {K : List (Int × Int)} {k u : Int} (h : findK K k = some u) : (Lit.int .i64 k, Value.int .i64 u) ∈ K.map kP := by
  unfold findK at h
  cases hf : K.find? (fun p => p.1 == k) with
  | none => rw [hf] at h; cases h
  | some p =>
    rw [hf] at h
    have h1 := List.mem_of_find?_eq_some hf
    have h2 := List.find?_some hf
    simp only [beq_iff_eq] at h2
    simp only [Option.map_some, Option.some.injEq] at h
    exact List.mem_map.2 ⟨p, h1, by simp [kP, h2, h]⟩
theorem findK_none {K : List (Int × Int)} {k : Int} (h : findK K k = none) : ∀ p ∈ K.map kP, p.1 ≠ Lit.int .i64 k := by
  intro p hp e
  obtain ⟨q, hq, rfl⟩ := List.mem_map.1 hp
  simp only [kP, Lit.int.injEq, true_and] at e
  unfold findK at h
  simp only [Option.map_eq_none_iff, List.find?_eq_none, beq_iff_eq] at h
  exact h q hq e

theorem CacheAt.lookK {w : World} {b m1 m2 : Nat} {most : Int} {U : List (PKey × Int)} {K : List (Int × Int)} (h : CacheAt w b m1 m2 most U K) {k : Int} (hk : wf64 k) :
    (Instr.lookup 55 (.map (some m2)) (.int .i64 k) true).run Try.prog w = .ok (.tuple #[.int .i64 ((findK K k).getD 0), .bool (findK K k).isSome]) w := by
  cases hf : findK K k with
  | none =>
    rcases h.back.look law3 Try.underlying55 (zero3 w) (key3 hk) true with ⟨v, h1, h2⟩ | ⟨h1, h2⟩
    · exact absurd rfl (findK_none hf _ h1)
    · exact h2
  | some u =>
    have hm := findK_some hf
    rcases h.back.look law3 Try.underlying55 (zero3 w) (key3 hk) true with ⟨v, h1, h2⟩ | ⟨h1, h2⟩
    · have := apart_uniq (h.back.apart law3) h1 hm
      subst this
      exact h2
    · exact absurd rfl (h1 _ hm)

def revokedP (K : List (Int × Int)) (x : CredD) : Bool := (findK K x.job).isSome && decide (x.epoch ≤ (findK K x.job).getD 0)

set_option maxHeartbeats 1000000 in
theorem revoked16_any (w : World) (b m1 m2 : Nat) (most : Int) (U : List (PKey × Int)) (K : List (Int × Int)) (h : CacheAt w b m1 m2 most U K) (x : CredD) (hx : x.wf) :
    Calls Try.prog 16 #[.pointer (some ⟨b, 0, none⟩), x.val] w fun e w' => e = .returned (.bool (revokedP K x)) ∧ Fr (fun _ => False) w w' := by
  have hlk : ∀ o, _ := fun o => (h.fr ((Fr.refl (fun _ => False) w).alloc o).drew (fun h => h) (fun h => h) (fun h => h)).lookK hx.job
  unfold revokedP
  generalize (findK K x.job).getD 0 = u at *
  generalize (findK K x.job).isSome = ok at *
  have c1 : ∀ o, (w.alloc o).cell? ⟨b, 2, none⟩ = some (.map (some m2)) := fun o => (h.blk.alloc o).cell 2
  have hbl := h.blk.lt
  obtain ⟨job, epoch, step, frm, unt, A, c, ns, cores⟩ := x
  simp only [CredD.val] at *
  clear h
  go_enter Try.func16, Try.ntmps16
  go_wp2
  go_region
  all_goals (cases ok <;> go_wp2 <;> go_ret <;> exact ⟨by simp, ((Fr.refl _ w).alloc _).drew⟩)

set_option maxHeartbeats 400000 in
theorem revoked16_nil (w : World) (x : CredD) :
    Calls Try.prog 16 #[.pointer none, x.val] w fun e w' => e = .returned (.bool false) ∧ Fr (fun _ => False) w w' := by
  obtain ⟨job, epoch, step, frm, unt, A, c, ns, cores⟩ := x
  simp only [CredD.val]
  go_enter Try.func16, Try.ntmps16
  go_wp2
  go_ret
  exact ⟨rfl, (Fr.refl _ w).alloc _⟩

end Go.Proofs.Ytclokfjcjpigpaa
