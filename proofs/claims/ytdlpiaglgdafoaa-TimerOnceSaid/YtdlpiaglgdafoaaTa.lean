/-
  The heap in memory.
-/
import Derived.Test.YtdlpiaglgdafoaaHp
import Derived.Test.YtdlpiaglgdafoaaInts
import Derived.Test.YtdlpiaglgdafoaaMid
import Derived.Laws.OwnMore
import Derived.BigRegion
namespace Go.Proofs.Ytdlpiaglgdafoaa
open Go.RowKit Go.Maps

def encE (e : EntD) : Value := .pointer (some ⟨e.1, 0, none⟩)
def wf64 (n : Int) : Prop := -9223372036854775808 ≤ n ∧ n ≤ 9223372036854775807

/-- The heap lies behind the queue in block q: a slice of entries, each in a block of its own. -/
structure HAt (w : World) (base q : Nat) (mv : Value) (L : List EntD) (v : Value) : Prop where
  blk : Blk w q 52 #[v, mv]
  row : w.ownsRow base 53 1 v L.length (L.map encE)
  ent : ∀ k (hk : k < L.length), Blk w (L[k]'hk).1 56 #[.int .i64 (L[k]'hk).2.1, .int .i64 (L[k]'hk).2.2, .int .i64 (k : Nat)]
  eb : ∀ e ∈ L, base ≤ e.1
  hq : base ≤ q

/-- The blocks that the heap's functions may turn. -/
def HS (v : Value) (L : List EntD) (i : Nat) : Prop := v.ownBlock = some i ∨ ∃ e ∈ L, e.1 = i

theorem HS.perm {v : Value} {L L' : List EntD} (h : L'.Perm L) {i : Nat} (hi : HS v L' i) : HS v L i := by
  rcases hi with h1 | ⟨e, he, h1⟩
  · exact Or.inl h1
  · exact Or.inr ⟨e, h.mem_iff.1 he, h1⟩

theorem run_loadVar50' {w : World} {q : Nat} {v : Value} (hc : w.cell? ⟨q, 0, none⟩ = some v) : (loadVar 50 ⟨q, 0, none⟩).run Try.prog w = .ok v w := by
  go_simp
theorem receiver_at {w : World} {q : Nat} {v : Value} (name : Option String) (hc : w.cell? ⟨q, 0, none⟩ = some v) :
    (receiverAt 58 (.val (.pointer (some ⟨q, 0, none⟩))) false name).run Try.prog w = .ok v w := by
  have h0 := run_loadVar50' hc
  have hu : (underlying 58).run Try.prog w = .ok (.pointer 50) w := by kernel_rfl
  unfold receiverAt
  cases name with
  | none => simp only [Sem.run_bind, hu, Result.andThen_ok, Place.get, Sem.run_pure, asAddr]; exact h0
  | some n =>
    have hw : (Builtin.ssaWrapNilChk_ #[58] 58 #[.pointer (some ⟨q, 0, none⟩), strVal "", strVal n]).run Try.prog w = .ok (.pointer (some ⟨q, 0, none⟩)) w := rfl
    simp only [Sem.run_bind, hu, Result.andThen_ok, Place.get, Sem.run_pure, hw, asAddr]
    exact h0

theorem method_of {w : World} {q f : Nat} {v : Value} (name : String) (hi : ((Try.prog.info? 58).map fun i => (i.methods.find? (·.name == name)).map fun m => (m.path.toList, m.func)) = some (some ([], some (f, false))))
    (hc : w.cell? ⟨q, 0, none⟩ = some v) : (method 187 58 (.pointer (some ⟨q, 0, none⟩)) name).run Try.prog w = .ok (f, v) w := by
  cases h1 : Try.prog.info? 58 with
  | none => rw [h1] at hi; cases hi
  | some i =>
    rw [h1] at hi
    simp only [Option.map_some, Option.some.injEq] at hi
    cases h2 : i.methods.find? (·.name == name) with
    | none => rw [h2] at hi; cases hi
    | some m =>
      rw [h2] at hi
      simp only [Option.map_some, Option.some.injEq, Prod.mk.injEq] at hi
      obtain ⟨hp, hf⟩ := hi
      have hpg : (program).run Try.prog w = .ok Try.prog w := rfl
      have ht : (typeInfo 58).run Try.prog w = .ok i w := by
        unfold typeInfo
        simp only [Sem.run_bind, hpg, Result.andThen_ok, h1, Sem.run_pure]
      unfold method
      simp only [Sem.run_bind, ht, Result.andThen_ok, h2, hp, hf, follow, Sem.run_pure, receiver_at _ hc]

theorem m_len {w : World} {q : Nat} {v : Value} (hc : w.cell? ⟨q, 0, none⟩ = some v) : (method 187 58 (.pointer (some ⟨q, 0, none⟩)) "Len").run Try.prog w = .ok (48, v) w := method_of _ (by kernel_rfl) hc
theorem m_less {w : World} {q : Nat} {v : Value} (hc : w.cell? ⟨q, 0, none⟩ = some v) : (method 187 58 (.pointer (some ⟨q, 0, none⟩)) "Less").run Try.prog w = .ok (49, v) w := method_of _ (by kernel_rfl) hc
theorem m_swap {w : World} {q : Nat} {v : Value} (hc : w.cell? ⟨q, 0, none⟩ = some v) : (method 187 58 (.pointer (some ⟨q, 0, none⟩)) "Swap").run Try.prog w = .ok (50, v) w := method_of _ (by kernel_rfl) hc
theorem m_pop (w : World) (a : Addr) : (method 187 58 (.pointer (some a)) "Pop").run Try.prog w = .ok (51, .pointer (some a)) w := by kernel_rfl
theorem m_push (w : World) (a : Addr) : (method 187 58 (.pointer (some a)) "Push").run Try.prog w = .ok (52, .pointer (some a)) w := by kernel_rfl

end Go.Proofs.Ytdlpiaglgdafoaa
