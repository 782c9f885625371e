/-
  'ReplayBack', plain; one cache's state.
-/
import Derived.Test.YtclokfjcjpigpaaZ
namespace Go.Proofs.Ytclokfjcjpigpaa
open Go.RowKit Go.Maps

def Taken (K : List (Int × Int)) (job ep : Int) : Prop := ∃ e, findK K job = some e ∧ ep ≤ e

theorem findK_put_same (K : List (Int × Int)) (j e : Int) : findK (putK K j e) j = some e := by simp [findK, putK]

theorem findK_put_ne (K : List (Int × Int)) {j k : Int} (e : Int) (h : j ≠ k) : findK (putK K j e) k = findK K k := by
  unfold findK putK
  rw [List.find?_cons]
  have hb : (j == k) = false := by simpa using h
  simp only [hb]
  congr 1
  induction K with
  | nil => rfl
  | cons p K ih =>
    by_cases hp : p.1 = j
    · rw [List.filter_cons_of_neg (by simp [hp]), ih, List.find?_cons]
      have : (p.1 == k) = false := by simpa [hp] using h
      simp only [this]
    · rw [List.filter_cons_of_pos (by simpa using hp), List.find?_cons, List.find?_cons, ih]

theorem Taken.revoke {K : List (Int × Int)} {job ep : Int} (h : Taken K job ep) (j e : Int) : Taken (revokeR K j e).2 job ep := by
  obtain ⟨u, hu, hle⟩ := h
  unfold revokeR
  split
  · exact ⟨u, hu, hle⟩
  split
  · exact ⟨u, hu, hle⟩
  · by_cases hj : j = job
    · subst hj
      refine ⟨_, findK_put_same _ _ _, ?_⟩
      rw [hu]
      simp only [Option.getD_some]
      omega
    · exact ⟨u, by rw [findK_put_ne _ _ hj]; exact hu, hle⟩

theorem Taken.start {K : List (Int × Int)} {job ep : Int} (h : (revokeR K job ep).1 = 0) : Taken (revokeR K job ep).2 job ep := by
  unfold revokeR at h ⊢
  split at h
  · cases h
  split at h
  · cases h
  · rename_i h1 h2
    rw [if_neg h1, if_neg h2]
    exact ⟨_, findK_put_same _ _ _, by omega⟩

theorem Taken.revoked {K : List (Int × Int)} {x : CredD} {ep : Int} (h : Taken K x.job ep) (hle : x.epoch ≤ ep) : revokedP K x = true := by
  obtain ⟨u, hu, h1⟩ := h
  unfold revokedP
  rw [hu]
  simp only [Option.isSome_some, Option.getD_some, Bool.true_and, decide_eq_true_eq]
  omega

theorem useR_back {most : Int} {U : List (PKey × Int)} {K : List (Int × Int)} {x : CredD} {now : Int} (h : revokedP K x = true) :
    (useR most U K x now).1 ≠ 0 ∧ (x.ok = false ∨ x.until_ ≤ now ∨ (useR most U K x now).1 = 11) := by
  unfold useR
  rw [h]
  by_cases h1 : x.ok = false
  · rw [if_pos h1]; exact ⟨by simp, Or.inl h1⟩
  · rw [if_neg h1]
    by_cases h2 : x.until_ ≤ now
    · rw [if_pos h2]; exact ⟨by simp, Or.inr (Or.inl h2)⟩
    · rw [if_neg h2, if_pos rfl]; exact ⟨by simp, Or.inr (Or.inr rfl)⟩

/-- The cache stands above block B; what is kept and what is taken back meets Φ. -/
structure Cst (w : World) (B b m1 m2 : Nat) (most : Int) (Φ : List (PKey × Int) → List (Int × Int) → Prop) : Prop where
  ex : ∃ U K, CacheAt w b m1 m2 most U K ∧ Φ U K
  h1 : B ≤ m1
  h2 : B ≤ m2
  size : B ≤ w.heap.size

section
variable {w w' : World} {B b m1 m2 : Nat} {most : Int} {Φ Ψ : List (PKey × Int) → List (Int × Int) → Prop}

theorem Cst.fr (h : Cst w B b m1 m2 most Φ) (hf : Fr (fun _ => False) w w') : Cst w' B b m1 m2 most Φ := by
  obtain ⟨U, K, hc, hs⟩ := h.ex
  exact ⟨⟨U, K, hc.fr hf (fun h => h) (fun h => h) (fun h => h), hs⟩, h.h1, h.h2, Nat.le_trans h.size hf.size⟩

theorem Cst.off (h : Cst w B b m1 m2 most Φ) : m1 < w.heap.size ∧ m2 < w.heap.size := by
  obtain ⟨U, K, hc, hs⟩ := h.ex
  exact ⟨hc.until_.lt, hc.back.lt⟩

theorem Cst.use (h : Cst w B b m1 m2 most Φ) (x : CredD) (hx : x.wf) (now : Int) (hA : Nums w B x.A x.ns) (hm : x.ns.length ≤ maxLen) (hΨ : ∀ U K, Φ U K → Ψ (useR most U K x now).2 K) :
    Calls Try.prog 18 #[.pointer (some ⟨b, 0, none⟩), x.val, .int .i64 now] w fun e w1 => ∃ ans, e = .returned (.int .i64 ans) ∧ Cst w1 B b m1 m2 most Ψ ∧ Fr (fun k => k = m1) w w1 := by
  obtain ⟨U, K, hc, hs⟩ := h.ex
  refine (use18_any w B b m1 m2 most U K hc x hx now hA h.size hm).mono ?_
  rintro e w1 ⟨rfl, hc1, hf1⟩
  exact ⟨_, rfl, ⟨⟨_, _, hc1, hΨ _ _ hs⟩, h.h1, h.h2, Nat.le_trans h.size hf1.size⟩, hf1⟩

theorem Cst.revoke (h : Cst w B b m1 m2 most Φ) (job epoch : Int) (hΨ : ∀ U K, Φ U K → Ψ U (revokeR K job epoch).2) :
    Calls Try.prog 19 #[.pointer (some ⟨b, 0, none⟩), .int .i64 job, .int .i64 epoch] w fun e w1 => ∃ ans, e = .returned (.int .i64 ans) ∧ Cst w1 B b m1 m2 most Ψ ∧ Fr (fun k => k = m2) w w1 := by
  obtain ⟨U, K, hc, hs⟩ := h.ex
  refine (revoke19_any w b m1 m2 most U K hc job epoch).mono ?_
  rintro e w1 ⟨rfl, hc1, hf1⟩
  exact ⟨_, rfl, ⟨⟨_, _, hc1, hΨ _ _ hs⟩, h.h1, h.h2, Nat.le_trans h.size hf1.size⟩, hf1⟩
end

def backArg (x : CredD) (ep now : Int) (A : Option Addr) (n cap : Nat) : Array Value := #[.int .i64 x.job, .int .i64 x.epoch, .int .i64 x.step, .int .i64 x.frm, .int .i64 x.until_, .slice x.A x.ns.length x.c, .int .i64 x.cores, .int .i64 ep, .int .i64 now, .slice A n cap]

end Go.Proofs.Ytclokfjcjpigpaa
