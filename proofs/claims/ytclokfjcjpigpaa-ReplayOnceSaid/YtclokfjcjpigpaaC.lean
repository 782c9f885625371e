/-
  The program's cache: what each of its functions does, said of lists.
-/
import Derived.Test.YtclokfjcjpigpaaB
import Derived.Test.YtclokfjcjpigpaaRange
import Derived.DeepKeys4
import Derived.Deep.RegionHeld3
import Derived.Deep.RegionWith
namespace Go.Proofs.Ytclokfjcjpigpaa
open Go.RowKit Go.Maps

abbrev PKey := Int × Int × Int

def wf64 (n : Int) : Prop := -9223372036854775808 ≤ n ∧ n ≤ 9223372036854775807

def plLit (k : PKey) : Lit := .string (keyBytes [.int .i64 k.1, .int .i64 k.2.1, .int .i64 k.2.2])
def plVal (k : PKey) : Value := .agg #[.int .i64 k.1, .int .i64 k.2.1, .int .i64 k.2.2]
def PKey.wf (k : PKey) : Prop := wf64 k.1 ∧ wf64 k.2.1 ∧ wf64 k.2.2

theorem wf_lit {n : Int} (h : wf64 n) : (Lit.int .i64 n).wf = true := WalkArith.wf_i64 h

theorem laidOut : laidOutB Try.prog = true := by kernel_rfl
theorem row60 : (60 : TypeId) < Try.prog.types.size := of_decide_eq_true (by kernel_rfl)
theorem wide60 : (match Try.prog.underlying 60 with | some (.array _ _) | some (.struct _) => true | _ => false) = true := by kernel_rfl
theorem law60 : Keyed Try.prog 60 := Keyed.of_law (deep_law_laid laidOut (m := 3) (by omega) row60 (by kernel_rfl) wide60)
theorem law3 : Keyed Try.prog 3 := int_keyed Try.underlying3
theorem zero3 (w : World) : (zeroValue 3).run Try.prog w = .ok (.int .i64 0) w := by kernel_rfl

theorem key3 {n : Int} (h : wf64 n) : keyOf Try.prog 3 (.int .i64 n) = some (.int .i64 n) := keyOf_int_mk Try.underlying3 (wf_lit h)

theorem size_types : Try.prog.types.size = 85 := by kernel_rfl
theorem keyType60 : Try.prog.keyType 60 = true := by kernel_rfl
theorem cells60 : Try.prog.cellsOf 60 = 3 := by kernel_rfl
theorem cells3 : Try.prog.cellsOf 3 = 1 := by kernel_rfl

theorem lits60 (d : Nat) {a b c : Int} (h1 : wf64 a) (h2 : wf64 b) (h3 : wf64 c) : Try.prog.keyLits (d + 2) 60 [.int .i64 a, .int .i64 b, .int .i64 c] = some [.int .i64 a, .int .i64 b, .int .i64 c] := by
  have e1 := wf_lit h1
  have e2 := wf_lit h2
  have e3 := wf_lit h3
  have f3 : ∀ (d : Nat) {n : Int}, (Lit.int .i64 n).wf = true → Try.prog.keyLits (d + 1) 3 [.int .i64 n] = some [.int .i64 n] := fun d n hn => by
    unfold Program.keyLits
    rw [Try.underlying3]
    simp [hn]
  unfold Program.keyLits
  rw [Try.underlying60]
  simp [cells60, cells3, f3 d e1, f3 d e2, f3 d e3]

theorem formed60 (k : PKey) : (plVal k).formed Try.prog 60 = true := by
  unfold Value.formed plVal
  rw [Try.underlying60]
  simp [cells60]

theorem key60 {k : PKey} (h : k.wf) : keyOf Try.prog 60 (plVal k) = some (plLit k) := by
  have h1 := lits60 84 h.1 h.2.1 h.2.2
  unfold keyOf
  rw [Try.underlying60]
  simp only [keyType60, formed60, Bool.and_self, if_true]
  rw [size_types]
  show Option.map _ (Try.prog.keyLits 86 60 _) = _
  rw [show (plVal k).cells.toList = [.int .i64 k.1, .int .i64 k.2.1, .int .i64 k.2.2] from rfl, h1]
  rfl

theorem plLit_inj {a b : PKey} (ha : a.wf) (hb : b.wf) (h : plLit a = plLit b) : a = b := by
  have h1 := law60.inj (key60 ha) (h ▸ key60 hb)
  obtain ⟨a1, a2, a3⟩ := a
  obtain ⟨b1, b2, b3⟩ := b
  simp only [plVal] at h1
  simp at h1
  obtain ⟨rfl, rfl, rfl⟩ := h1
  rfl

end Go.Proofs.Ytclokfjcjpigpaa
