/-
  A map[int]int as a list of pairs of numbers.
-/
import Derived.Test.YtomoomopodihhaaMem
import Derived.DeepKeys4
namespace Go.Proofs.Ytomoomopodihhaa
open Go.RowKit Go.Maps

def wf64 (n : Int) : Prop := -9223372036854775808 ≤ n ∧ n ≤ 9223372036854775807
theorem wf_lit {n : Int} (h : wf64 n) : (Lit.int .i64 n).wf = true := WalkArith.wf_i64 h
theorem law3 : Keyed Try.prog 3 := int_keyed Try.underlying3
theorem zero3 (w : World) : (zeroValue 3).run Try.prog w = .ok (.int .i64 0) w := by kernel_rfl
theorem key3 {n : Int} (h : wf64 n) : keyOf Try.prog 3 (.int .i64 n) = some (.int .i64 n) := keyOf_int_mk Try.underlying3 (wf_lit h)
def kP (p : Int × Int) : Lit × Value := (.int .i64 p.1, .int .i64 p.2)

def findK (K : List (Int × Int)) (j : Int) : Option Int := (K.find? (fun p => p.1 == j)).map (·.2)

theorem findK_some {K : List (Int × Int)} {k u : Int} (h : findK K k = some u) : (Lit.int .i64 k, Value.int .i64 u) ∈ K.map kP := by
  unfold findK at h
  cases hf : K.find? (fun p => p.1 == k) with
  | none => rw [hf] at h; cases h
  | some p =>
    rw [hf] at h
    have h1 := List.mem_of_find?_eq_some hf
    have h2 := List.find?_some hf
    simp only [beq_iff_eq] at h2
    simp only [Option.map_some, Option.some.injEq] at h
    exact List.mem_map.2 ⟨p, h1, by simp [kP, h2, h]⟩
theorem findK_none {K : List (Int × Int)} {k : Int} (h : findK K k = none) : ∀ p ∈ K.map kP, p.1 ≠ Lit.int .i64 k := by
  intro p hp e
  obtain ⟨q, hq, rfl⟩ := List.mem_map.1 hp
  simp only [kP, Lit.int.injEq, true_and] at e
  unfold findK at h
  simp only [Option.map_eq_none_iff, List.find?_eq_none, beq_iff_eq] at h
  exact h q hq e

theorem lookM {w : World} {m : Nat} {K : List (Int × Int)} {t : TypeId} (ht : Try.prog.underlying t = some (.map 3 3)) (h : MapL Try.prog 3 w m (K.map kP)) {k : Int} (hk : wf64 k) :
    (Instr.lookup t (.map (some m)) (.int .i64 k) true).run Try.prog w = .ok (.tuple #[.int .i64 ((findK K k).getD 0), .bool (findK K k).isSome]) w := by
  cases hf : findK K k with
  | none =>
    rcases h.look law3 ht (zero3 w) (key3 hk) true with ⟨v, h1, h2⟩ | ⟨h1, h2⟩
    · exact absurd rfl (findK_none hf _ h1)
    · exact h2
  | some u =>
    have hm := findK_some hf
    rcases h.look law3 ht (zero3 w) (key3 hk) true with ⟨v, h1, h2⟩ | ⟨h1, h2⟩
    · have := apart_uniq (h.apart law3) h1 hm
      subst this
      exact h2
    · exact absurd rfl (h1 _ hm)

theorem lookM1 {w : World} {m : Nat} {K : List (Int × Int)} {t : TypeId} (ht : Try.prog.underlying t = some (.map 3 3)) (h : MapL Try.prog 3 w m (K.map kP)) {k : Int} (hk : wf64 k) :
    (Instr.lookup t (.map (some m)) (.int .i64 k) false).run Try.prog w = .ok (.int .i64 ((findK K k).getD 0)) w := by
  cases hf : findK K k with
  | none =>
    rcases h.look law3 ht (zero3 w) (key3 hk) false with ⟨v, h1, h2⟩ | ⟨h1, h2⟩
    · exact absurd rfl (findK_none hf _ h1)
    · exact h2
  | some u =>
    have hm := findK_some hf
    rcases h.look law3 ht (zero3 w) (key3 hk) false with ⟨v, h1, h2⟩ | ⟨h1, h2⟩
    · have := apart_uniq (h.apart law3) h1 hm
      subst this
      exact h2
    · exact absurd rfl (h1 _ hm)

theorem same_int (a b : Int) : (Lit.int .i64 a).sameKey (.int .i64 b) = (a == b) := by
  by_cases h : a = b
  · subst h; rw [WideAt.sameKey_self (by simp [WideAt.IsKeyLit])]; simp
  · rw [sameKey_ne (by simpa using h)]; simp [h]

def putK (K : List (Int × Int)) (j e : Int) : List (Int × Int) := (j, e) :: K.filter (fun p => p.1 != j)

theorem putK_map (K : List (Int × Int)) (j e : Int) : (Lit.int .i64 j, Value.int .i64 e) :: (K.map kP).filter (fun p => !p.1.sameKey (Lit.int .i64 j)) = (putK K j e).map kP := by
  unfold putK
  rw [List.map_cons, List.filter_map]
  refine congrArg _ (congrArg _ ?_)
  refine List.filter_congr fun p _ => ?_
  simp [kP, same_int, bne]

theorem findK_mem {K : List (Int × Int)} {k u : Int} (h : findK K k = some u) : (k, u) ∈ K := by
  unfold findK at h
  cases hf : K.find? (fun p => p.1 == k) with
  | none => rw [hf] at h; cases h
  | some p =>
    rw [hf] at h
    have h1 := List.mem_of_find?_eq_some hf
    have h2 := List.find?_some hf
    simp only [beq_iff_eq] at h2
    simp only [Option.map_some, Option.some.injEq] at h
    rw [← h2, ← h]
    exact h1

theorem findK_wf {K : List (Int × Int)} (hK : ∀ p ∈ K, wf64 p.1 ∧ wf64 p.2) (k : Int) : wf64 ((findK K k).getD 0) := by
  cases hf : findK K k with
  | none => simp [wf64]
  | some u => exact (hK _ (findK_mem hf)).2

theorem findK_put_same (K : List (Int × Int)) (j e : Int) : findK (putK K j e) j = some e := by simp [findK, putK]

theorem findK_put_ne (K : List (Int × Int)) {j k : Int} (e : Int) (h : j ≠ k) : findK (putK K j e) k = findK K k := by
  unfold findK putK
  rw [List.find?_cons]
  have hb : (j == k) = false := by simpa using h
  simp only [hb]
  congr 1
  induction K with
  | nil => rfl
  | cons p K ih =>
    by_cases hp : p.1 = j
    · rw [List.filter_cons_of_neg (by simp [hp]), ih, List.find?_cons]
      have : (p.1 == k) = false := by simpa [hp] using h
      simp only [this]
    · rw [List.filter_cons_of_pos (by simpa using hp), List.find?_cons, List.find?_cons, ih]

end Go.Proofs.Ytomoomopodihhaa
