/-
  The table in memory; New, Signalled.
-/
import Derived.Test.YtomoomopodihhaaPc
import Derived.DeepKeys4
namespace Go.Proofs.Ytomoomopodihhaa
open Go.RowKit Go.Maps

theorem wf_lit {n : Int} (h : wf64 n) : (Lit.int .i64 n).wf = true := WalkArith.wf_i64 h
theorem law3 : Keyed Try.prog 3 := int_keyed Try.underlying3
theorem zero90 (w : World) : (zeroValue 90).run Try.prog w = .ok (.pointer none) w := by kernel_rfl
theorem key3 {n : Int} (h : wf64 n) : keyOf Try.prog 3 (.int .i64 n) = some (.int .i64 n) := keyOf_int_mk Try.underlying3 (wf_lit h)
theorem same_int (a b : Int) : (Lit.int .i64 a).sameKey (.int .i64 b) = (a == b) := by
  simp only [Lit.sameKey, Lit.int.injEq, true_and, decide_eq_decide]
  by_cases h : a = b
  · subst h; simp
  · simp [h]

/-- A process: its block, its task, its signal. -/
structure ProcE where
  blk : Nat
  t : TaskD
  sig : Int

def ProcE.cells (e : ProcE) : Array Value := #[.int .i64 e.t.pid, .int .i64 e.t.job, .int .i64 e.t.epoch, .int .i64 e.t.step, .int .i64 e.t.rank, e.t.cv, .int .i64 e.t.state, .int .i64 e.t.code, .int .i64 e.sig]
def pP (e : ProcE) : Lit × Value := (.int .i64 e.t.pid, .pointer (some ⟨e.blk, 0, none⟩))
def TaskD.abs (x : TaskD) : TaskD := { x with cv := .slice none 0 0 }
def ProcE.abs (e : ProcE) : TaskD × Int := (e.t.abs, e.sig)

def rowI (ns : List Int) : List Value := ns.map fun x => .int .i64 x

structure TabAt (w : World) (t m : Nat) (M : List ProcE) (last : Int) : Prop where
  blk : Blk w t 88 #[.map (some m), .int .i64 last]
  map : MapL Try.prog 3 w m (M.map pP)
  ent : ∀ e ∈ M, Blk w e.blk 92 e.cells
  cor : ∀ e ∈ M, w.ownsRow 0 3 1 e.t.cv e.t.ns.length (rowI e.t.ns)
  srt : M.Pairwise fun a b => a.t.pid < b.t.pid
  rng : ∀ e ∈ M, 1 ≤ e.t.pid ∧ e.t.pid ≤ last
  nl : ∀ e ∈ M, e.t.ns.length ≤ 100000
  le : M.length ≤ 256
  lo : 0 ≤ last
  hi : last ≤ 100000

def ownP (t m : Nat) (M : List ProcE) (i : Nat) : Prop := i = t ∨ i = m ∨ ∃ e ∈ M, e.blk = i ∨ e.t.cv.ownBlock = some i

theorem coresOk_row {w : World} {base : Nat} {cv : Value} {ns : List Int} (h : w.ownsRow base 3 1 cv ns.length (rowI ns)) (hl : ns.length ≤ 100000) : CoresOk w cv ns := by
  refine ⟨IntsV.of_row h, ?_, ?_, hl⟩
  · rcases h.2 with ⟨rfl, h3⟩ | ⟨g, cap, cur, rfl, _, _, h4⟩
    · rw [h3]; exact Nat.zero_le _
    · exact h4.1
  · rintro n c rfl
    rcases h.2 with ⟨h2, _⟩ | ⟨g, cap, cur, h2, _⟩
    · cases h2; rfl
    · cases h2

section
variable {S : Nat → Prop} {w w' : World} {t m : Nat} {M : List ProcE} {last : Int}
theorem TabAt.fr (h : TabAt w t m M last) (hf : Fr S w w') (hs : ∀ i, ownP t m M i → ¬ S i) : TabAt w' t m M last where
  blk := h.blk.fr hf (hs _ (Or.inl rfl))
  map := h.map.fr hf (hs _ (Or.inr (Or.inl rfl)))
  ent e he := (h.ent e he).fr hf (hs _ (Or.inr (Or.inr ⟨e, he, Or.inl rfl⟩)))
  cor e he := ownsRow_fr (h.cor e he) hf (fun k hk => hs k (Or.inr (Or.inr ⟨e, he, Or.inr hk⟩)))
  srt := h.srt
  rng := h.rng
  nl := h.nl
  le := h.le
  lo := h.lo
  hi := h.hi
theorem TabAt.fr0 (h : TabAt w t m M last) (hf : Fr (fun _ => False) w w') : TabAt w' t m M last := h.fr hf (fun _ _ h => h)
theorem TabAt.lt (h : TabAt w t m M last) {i : Nat} (hi : ownP t m M i) : i < w.heap.size := by
  rcases hi with rfl | rfl | ⟨e, he, rfl | h1⟩
  · exact h.blk.lt
  · exact h.map.lt
  · exact (h.ent e he).lt
  · exact ((h.cor e he).lt i h1).2
theorem TabAt.c0 (h : TabAt w t m M last) : w.cell? ⟨t, 0, none⟩ = some (.map (some m)) := h.blk.cell 0
theorem TabAt.c1 (h : TabAt w t m M last) : w.cell? ⟨t, 1, none⟩ = some (.int .i64 last) := h.blk.cell 1
theorem TabAt.uniq (h : TabAt w t m M last) {a b : ProcE} (ha : a ∈ M) (hb : b ∈ M) (e : a.t.pid = b.t.pid) : a = b := by
  obtain ⟨i, hi, rfl⟩ := List.mem_iff_getElem.1 ha
  obtain ⟨j, hj, rfl⟩ := List.mem_iff_getElem.1 hb
  rcases Nat.lt_trichotomy i j with h1 | rfl | h1
  · have := (List.pairwise_iff_getElem.1 h.srt) i j hi hj h1
    omega
  · rfl
  · have := (List.pairwise_iff_getElem.1 h.srt) j i hj hi h1
    omega
theorem TabAt.inj (h : TabAt w t m M last) {a b : ProcE} (ha : a ∈ M) (hb : b ∈ M) (e : a.blk = b.blk) : a = b := by
  have h1 := h.ent a ha
  have h2 := h.ent b hb
  rw [e] at h1
  have h3 := congrArg (fun x : Array Value => x[0]?) (h1.uniq h2).2
  simp [ProcE.cells] at h3
  exact h.uniq ha hb h3
theorem TabAt.wf (h : TabAt w t m M last) {a : ProcE} (ha : a ∈ M) : wf64 a.t.pid := by
  have := h.rng a ha
  have := h.hi
  unfold wf64
  omega

/-- The map, asked. -/
theorem TabAt.look (h : TabAt w t m M last) {pid : Int} (hid : wf64 pid) (c : Bool) :
    (∃ e ∈ M, e.t.pid = pid ∧ (Instr.lookup 86 (.map (some m)) (.int .i64 pid) c).run Try.prog w = .ok (if c then .tuple #[.pointer (some ⟨e.blk, 0, none⟩), .bool true] else .pointer (some ⟨e.blk, 0, none⟩)) w) ∨
    ((∀ e ∈ M, e.t.pid ≠ pid) ∧ (Instr.lookup 86 (.map (some m)) (.int .i64 pid) c).run Try.prog w = .ok (if c then .tuple #[.pointer none, .bool false] else .pointer none) w) := by
  rcases h.map.look law3 Try.underlying86 (zero90 w) (key3 hid) c with ⟨u, h1, h2⟩ | ⟨h1, h2⟩
  · obtain ⟨e, he, hee⟩ := List.mem_map.1 h1
    simp only [pP, Prod.mk.injEq, Lit.int.injEq, true_and] at hee
    obtain ⟨e1, rfl⟩ := hee
    exact Or.inl ⟨e, he, e1, h2⟩
  · refine Or.inr ⟨fun e he e1 => ?_, h2⟩
    exact absurd (by rw [← e1]; rfl) (h1 _ (List.mem_map_of_mem he))
end

/-- The table holds K, behind pids up to last, in the blocks X. -/
def PT (w : World) (t : Nat) (K : List (TaskD × Int)) (last : Int) (X : Nat → Prop) : Prop := ∃ m M, TabAt w t m M last ∧ M.map ProcE.abs = K ∧ X = ownP t m M

section
variable {Y X : Nat → Prop} {w w' : World} {t : Nat} {K : List (TaskD × Int)} {last : Int}
theorem PT.lt (h : PT w t K last X) {i : Nat} (hi : X i) : i < w.heap.size := by
  obtain ⟨m, M, h, _, rfl⟩ := h
  exact h.lt hi
theorem PT.fr (h : PT w t K last X) (hf : Fr Y w w') (hs : ∀ i, X i → ¬ Y i) : PT w' t K last X := by
  obtain ⟨m, M, h, h2, rfl⟩ := h
  exact ⟨m, M, h.fr hf hs, h2, rfl⟩
theorem PT.fr0 (h : PT w t K last X) (hf : Fr (fun _ => False) w w') : PT w' t K last X := h.fr hf (fun _ _ h => h)
end

/-- What a call leaves of the table. -/
def PNx (w : World) (t : Nat) (K' : List (TaskD × Int)) (last' : Int) (X : Nat → Prop) (w' : World) : Prop := ∃ X', PT w' t K' last' X' ∧ Fr X w w' ∧ ∀ i, X' i → X i ∨ w.heap.size ≤ i

theorem PNx.same {w w' : World} {t : Nat} {K : List (TaskD × Int)} {last : Int} {X : Nat → Prop} (h : PT w t K last X) (hf : Fr (fun _ => False) w w') : PNx w t K last X w' :=
  ⟨X, h.fr0 hf, hf.mono (fun _ _ h => h.elim), fun _ hi => Or.inl hi⟩

set_option maxHeartbeats 400000 in
theorem new34_any (w : World) : Calls Try.prog 34 #[] w fun e w' => ∃ t X, e = .returned (.pointer (some ⟨t, 0, none⟩)) ∧ PT w' t [] 0 X ∧ Fr (fun _ => False) w w' ∧ ∀ i, X i → w.heap.size ≤ i := by
  have hr := @run_makeMap Try.prog
  go_enter Try.func34, Try.ntmps34
  go_wp2
  go_ret
  refine ⟨_, ownP (w.heap.size + 1) w.heap.size [], rfl, ⟨w.heap.size, [], ⟨?_, ?_, (fun e he => by cases he), (fun e he => by cases he), List.Pairwise.nil, (fun e he => by cases he), (fun e he => by cases he), by simp, by omega, by omega⟩, rfl, rfl⟩, ((Fr.refl _ w).alloc _).alloc _, ?_⟩
  · have := Blk.new (w.alloc (.map #[] 0)) 88 #[.map (some w.heap.size), .int .i64 0]
    simpa using this
  · exact (MapL.made w Try.prog 3).alloc _
  · intro i hi
    rcases hi with rfl | rfl | ⟨e, he, _⟩
    · omega
    · omega
    · cases he

def findP (K : List (TaskD × Int)) (pid : Int) : Option (TaskD × Int) := K.find? fun p => p.1.pid == pid
def sigP (K : List (TaskD × Int)) (pid : Int) : Int := ((findP K pid).map (·.2)).getD 0

theorem findP_hit {w : World} {t m : Nat} {M : List ProcE} {last : Int} (h : TabAt w t m M last) {e : ProcE} (he : e ∈ M) : findP (M.map ProcE.abs) e.t.pid = some e.abs := by
  unfold findP
  cases hf : (M.map ProcE.abs).find? (fun p => p.1.pid == e.t.pid) with
  | none =>
    have := (List.find?_eq_none.1 hf) e.abs (List.mem_map_of_mem he)
    simp [ProcE.abs, TaskD.abs] at this
  | some p =>
    have h1 := List.mem_of_find?_eq_some hf
    have h2 := List.find?_some hf
    obtain ⟨e2, he2, rfl⟩ := List.mem_map.1 h1
    have h3 : e2.t.pid = e.t.pid := by simpa [ProcE.abs, TaskD.abs] using h2
    rw [h.uniq he2 he h3]
theorem findP_miss {M : List ProcE} {pid : Int} (h : ∀ e ∈ M, e.t.pid ≠ pid) : findP (M.map ProcE.abs) pid = none := by
  unfold findP
  rw [List.find?_eq_none]
  intro p hp
  obtain ⟨e, he, rfl⟩ := List.mem_map.1 hp
  simpa [ProcE.abs, TaskD.abs] using h e he

set_option maxHeartbeats 1000000 in
theorem signalled43_any (w : World) (t : Nat) (K : List (TaskD × Int)) (last : Int) (X : Nat → Prop) (h : PT w t K last X) (pid : Int) (hid : wf64 pid) :
    Calls Try.prog 43 #[.pointer (some ⟨t, 0, none⟩), .int .i64 pid] w fun e w' => e = .returned (.int .i64 (sigP K pid)) ∧ w = w' := by
  obtain ⟨m, M, h, rfl, rfl⟩ := h
  have c0 := h.c0
  unfold sigP
  rcases h.look hid false with ⟨e, he, e1, h2⟩ | ⟨h1, h2⟩
  · have hb := h.ent e he
    subst e1
    rw [findP_hit h he]
    simp only [Bool.false_eq_true, if_false] at h2
    have b8 : w.cell? ⟨e.blk, 8, none⟩ = some (.int .i64 e.sig) := hb.cell 8
    clear h hb
    go_enter Try.func43, Try.ntmps43
    go_wp2
    go_ret
    exact ⟨rfl, rfl⟩
  · rw [findP_miss h1]
    simp only [Bool.false_eq_true, if_false] at h2
    clear h h1
    go_enter Try.func43, Try.ntmps43
    go_wp2
    go_ret
    exact ⟨rfl, rfl⟩

end Go.Proofs.Ytomoomopodihhaa
