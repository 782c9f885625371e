/-
  The plain law: the cache by maps and the reference by lists answer alike.
-/
import Derived.Test.YtclokfjcjpigpaaW
namespace Go.Proofs.Ytclokfjcjpigpaa
open Go.RowKit Go.Maps

structure Sim (U : List (PKey × Int)) (K : List (Int × Int)) (L : List CredD) (M : List (Int × Int)) : Prop where
  pu : U.Perm (L.map fun c => (c.key, c.until_))
  nd : (L.map CredD.key).Nodup
  pk : K.Perm M
  nk : (M.map (·.1)).Nodup

theorem Sim.nil : Sim [] [] [] [] := ⟨List.Perm.nil, List.nodup_nil, List.Perm.nil, List.nodup_nil⟩

theorem findG_some {α : Type} [BEq α] [LawfulBEq α] {U : List (α × Int)} {k : α} (hn : (U.map (·.1)).Nodup) (u : Int) : (U.find? (fun p => p.1 == k)).map (·.2) = some u ↔ (k, u) ∈ U := by
  induction U with
  | nil => simp
  | cons p U ih =>
    rw [List.map_cons, List.nodup_cons] at hn
    obtain ⟨a, v⟩ := p
    by_cases h : a = k
    · subst h
      simp only [List.find?_cons, beq_self_eq_true, Option.map_some, List.mem_cons, Prod.mk.injEq, true_and, Option.some.injEq]
      constructor
      · exact fun h => Or.inl h.symm
      · rintro (h | h)
        · exact h.symm
        · exact absurd (List.mem_map_of_mem (f := (·.1)) h) hn.1
    · have hb : (a == k) = false := by simpa using h
      rw [List.find?_cons]
      simp only [hb, List.mem_cons, Prod.mk.injEq]
      rw [ih hn.2]
      constructor
      · exact Or.inr
      · rintro (⟨h1, _⟩ | h1)
        · exact absurd h1.symm h
        · exact h1

theorem findG_isSome {α : Type} [BEq α] [LawfulBEq α] {U : List (α × Int)} {k : α} : ((U.find? (fun p => p.1 == k)).map (·.2)).isSome = U.any (fun p => p.1 == k) := by
  induction U with
  | nil => rfl
  | cons p U ih =>
    rw [List.find?_cons, List.any_cons]
    cases h : (p.1 == k)
    · simpa using ih
    · simp

theorem alikeB_iff (x y : CredD) : alikeB x y = true ↔ x.key = y.key := by
  simp [alikeB, CredD.key, and_assoc]

section
variable {U : List (PKey × Int)} {K M : List (Int × Int)} {L : List CredD}

theorem Sim.filter (h : Sim U K L M) (now : Int) : Sim (U.filter fun p => decide (now < p.2)) K (L.filter fun c => decide (now < c.until_)) M where
  pu := by
    have := h.pu.filter (fun p => decide (now < p.2))
    rw [List.filter_map] at this
    exact this
  nd := h.nd.sublist (List.filter_sublist.map _)
  pk := h.pk
  nk := h.nk

theorem Sim.len (h : Sim U K L M) : U.length = L.length := by simpa using h.pu.length_eq
theorem Sim.lenK (h : Sim U K L M) : K.length = M.length := h.pk.length_eq
theorem Sim.ndU (h : Sim U K L M) : (U.map (·.1)).Nodup := by
  have := (h.pu.map (·.1)).nodup_iff
  rw [this]
  simpa [Function.comp_def] using h.nd
theorem Sim.ndK (h : Sim U K L M) : (K.map (·.1)).Nodup := (h.pk.map (·.1)).nodup_iff.mpr h.nk

theorem Sim.used (h : Sim U K L M) (x : CredD) (now : Int) : usedP U x.key now = keptB L x now := by
  rw [Bool.eq_iff_iff]
  have h1 : usedP U x.key now = true ↔ ∃ u, (x.key, u) ∈ U ∧ now < u := by
    unfold usedP
    cases hf : findU U x.key with
    | none =>
      simp only [Bool.false_eq_true, false_iff]
      rintro ⟨u, hu, _⟩
      rw [← findG_some h.ndU] at hu
      unfold findU at hf
      rw [hf] at hu; cases hu
    | some u =>
      unfold findU at hf
      have hm := (findG_some h.ndU u).mp hf
      simp only [decide_eq_true_eq]
      constructor
      · exact fun hu => ⟨u, hm, hu⟩
      · rintro ⟨v, hv, hlt⟩
        rw [← findG_some h.ndU, hf] at hv
        cases hv; exact hlt
  rw [h1]
  unfold keptB
  rw [List.any_eq_true]
  constructor
  · rintro ⟨u, hu, hlt⟩
    have := h.pu.mem_iff.mp hu
    rw [List.mem_map] at this
    obtain ⟨c, hc, he⟩ := this
    cases he' : c.key
    refine ⟨c, hc, ?_⟩
    rw [Prod.mk.injEq] at he
    rw [Bool.and_eq_true, alikeB_iff]
    exact ⟨he.1, by rw [decide_eq_true_eq, he.2]; exact hlt⟩
  · rintro ⟨c, hc, he⟩
    rw [Bool.and_eq_true, alikeB_iff, decide_eq_true_eq] at he
    exact ⟨c.until_, h.pu.mem_iff.mpr (List.mem_map.mpr ⟨c, hc, by rw [he.1]⟩), he.2⟩

theorem Sim.revoked (h : Sim U K L M) (x : CredD) : revokedP K x = revokedB M x.job x.epoch := by
  rw [Bool.eq_iff_iff]
  unfold revokedP revokedB
  rw [List.any_eq_true]
  cases hf : findK K x.job with
  | none =>
    simp only [Option.isSome_none, Bool.false_and, Bool.false_eq_true, false_iff]
    rintro ⟨p, hp, he⟩
    rw [Bool.and_eq_true] at he
    have h1 : p.1 = x.job := by simpa using he.1
    have : (x.job, p.2) ∈ K := h.pk.mem_iff.mpr (by rw [← h1]; exact hp)
    rw [← findG_some h.ndK] at this
    unfold findK at hf
    rw [hf] at this; cases this
  | some u =>
    unfold findK at hf
    have hm := h.pk.mem_iff.mp ((findG_some h.ndK u).mp hf)
    simp only [Option.isSome_some, Bool.true_and, Option.getD_some, decide_eq_true_eq]
    constructor
    · intro hu
      exact ⟨_, hm, by simpa using hu⟩
    · rintro ⟨p, hp, he⟩
      rw [Bool.and_eq_true, decide_eq_true_eq] at he
      have h1 : p.1 = x.job := by simpa using he.1
      have : (x.job, p.2) ∈ K := h.pk.mem_iff.mpr (by rw [← h1]; exact hp)
      rw [← findG_some h.ndK, hf] at this
      cases this; exact he.2

theorem Sim.use (h : Sim U K L M) (most : Int) (x : CredD) (now : Int) : (useR most U K x now).1 = (useB most L M x now).1 ∧ Sim (useR most U K x now).2 K (useB most L M x now).2 M := by
  have hf := h.filter now
  have hu := hf.used x now
  have hr := h.revoked x
  have hk : (findU (U.filter (fun p => decide (now < p.2))) x.key).isSome = keptB (L.filter fun c => decide (now < c.until_)) x now := by
    rw [← hu]
    unfold usedP
    cases he : findU (U.filter (fun p => decide (now < p.2))) x.key with
    | none => rfl
    | some u =>
      unfold findU at he
      have hm := (findG_some hf.ndU u).mp he
      rw [List.mem_filter] at hm
      exact hm.2.symm
  have hl := hf.len
  unfold useR useB
  rw [hr, hk, hl]
  split
  · exact ⟨rfl, h⟩
  split
  · exact ⟨rfl, h⟩
  split
  · exact ⟨rfl, h⟩
  split
  · exact ⟨rfl, hf⟩
  split
  · exact ⟨rfl, hf⟩
  · rename_i hn _
    refine ⟨rfl, ?_, ?_, h.pk, h.nk⟩
    · rw [List.map_append]
      exact (hf.pu.cons _).trans (List.perm_append_singleton _ _).symm
    · rw [List.map_append, List.nodup_append]
      refine ⟨hf.nd, by simp, ?_⟩
      intro a ha b hb hab
      rw [List.map_cons, List.map_nil, List.mem_singleton] at hb
      subst hb; subst hab
      rw [List.mem_map] at ha
      obtain ⟨c, hc, he⟩ := ha
      apply hn
      unfold keptB
      rw [List.any_eq_true]
      refine ⟨c, hc, ?_⟩
      rw [Bool.and_eq_true, alikeB_iff]
      exact ⟨he, (List.mem_filter.mp hc).2⟩

theorem raise_perm : ∀ {M : List (Int × Int)} {j u e : Int}, (M.map (·.1)).Nodup → (j, u) ∈ M → (M.map (raiseP j e)).Perm ((j, max u e) :: M.filter (fun p => p.1 != j)) := by
  intro M
  induction M with
  | nil => intro j u e _ h; cases h
  | cons p M ih =>
    intro j u e hn hm
    rw [List.map_cons, List.nodup_cons] at hn
    obtain ⟨a, v⟩ := p
    by_cases ha : a = j
    · subst ha
      have huv : u = v := by
        rcases List.mem_cons.mp hm with h | h
        · cases h; rfl
        · exact absurd (List.mem_map_of_mem (f := (·.1)) h) hn.1
      subst huv
      have hno : ∀ q ∈ M, q.1 ≠ a := fun q hq he => hn.1 (he ▸ List.mem_map_of_mem (f := (·.1)) hq)
      have h1 : M.map (raiseP a e) = M := by
        conv => rhs; rw [← List.map_id M]
        apply List.map_congr_left
        intro q hq
        have : (q.1 == a) = false := by simpa using hno q hq
        simp [raiseP, this]
      have h2 : M.filter (fun p => p.1 != a) = M := by
        rw [List.filter_eq_self]
        intro q hq
        simpa using hno q hq
      simp only [List.map_cons, h1]
      rw [List.filter_cons_of_neg (by simp), h2]
      simp [raiseP]
    · rcases List.mem_cons.mp hm with h | h
      · exact absurd (congrArg Prod.fst h).symm ha
      · have hb : (a == j) = false := by simpa using ha
        rw [List.map_cons, List.filter_cons_of_pos (by simpa using ha)]
        have hr : raiseP j e (a, v) = (a, v) := by simp [raiseP, hb]
        rw [hr]
        exact ((ih hn.2 h).cons _).trans (List.Perm.swap _ _ _)

theorem Sim.revoke (h : Sim U K L M) (job epoch : Int) : (revokeR K job epoch).1 = (revokeB M job epoch).1 ∧ Sim U (revokeR K job epoch).2 L (revokeB M job epoch).2 := by
  have hj : (findK K job).isSome = hasJ M job := by
    unfold findK hasJ
    rw [findG_isSome]
    rw [Bool.eq_iff_iff, List.any_eq_true, List.any_eq_true]
    constructor
    · rintro ⟨p, hp, he⟩; exact ⟨p, h.pk.mem_iff.mp hp, he⟩
    · rintro ⟨p, hp, he⟩; exact ⟨p, h.pk.mem_iff.mpr hp, he⟩
  have hl := h.lenK
  unfold revokeR revokeB
  rw [hj, hl]
  split
  · exact ⟨rfl, h⟩
  split
  · exact ⟨rfl, h⟩
  rename_i hd _
  refine ⟨rfl, h.pu, h.nd, ?_, ?_⟩
  · unfold putK
    cases hh : hasJ M job with
    | true =>
      rw [hh] at hj
      obtain ⟨u, hu⟩ := Option.isSome_iff_exists.mp hj
      rw [hu]
      unfold findK at hu
      have hm := h.pk.mem_iff.mp ((findG_some h.ndK u).mp hu)
      simp only [↓reduceIte, List.append_nil, Option.getD_some]
      exact ((h.pk.filter _).cons _).trans (raise_perm h.nk hm).symm
    | false =>
      rw [hh] at hj
      have hno : ∀ q ∈ M, (q.1 == job) = false := by
        intro q hq
        unfold hasJ at hh
        rw [List.any_eq_false] at hh
        simpa using hh q hq
      have hn : findK K job = none := by simpa using hj
      have h1 : M.map (raiseP job epoch) = M := by
        conv => rhs; rw [← List.map_id M]
        apply List.map_congr_left
        intro q hq
        simp [raiseP, hno q hq]
      have h2 : M.filter (fun p => p.1 != job) = M := by
        rw [List.filter_eq_self]
        intro q hq
        simpa using hno q hq
      have he : max 0 epoch = epoch := by omega
      rw [hn, h1]
      simp only [Option.getD_none, he, Bool.false_eq_true, ↓reduceIte]
      have := h.pk.filter (fun p => p.1 != job)
      rw [h2] at this
      exact (this.cons _).trans (List.perm_append_singleton _ _).symm
  · have hm : ∀ p, (raiseP job epoch p).1 = p.1 := by
      intro p; unfold raiseP; split <;> rfl
    rw [List.map_append, List.map_map]
    have : ((fun p : Int × Int => p.1) ∘ raiseP job epoch) = (fun p => p.1) := funext hm
    rw [this, List.nodup_append]
    cases hh : hasJ M job with
    | true => exact ⟨h.nk, by simp, by simp⟩
    | false =>
      refine ⟨h.nk, by simp, ?_⟩
      intro a ha b hb hab
      simp at hb
      subst hb; subst hab
      unfold hasJ at hh
      rw [List.any_eq_false] at hh
      rw [List.mem_map] at ha
      obtain ⟨p, hp, he⟩ := ha
      have := hh p hp
      simp [he] at this
end

end Go.Proofs.Ytclokfjcjpigpaa
