/-
  Deadlines that come once: the plain law.
-/
import Derived.Test.YtdlpiaglgdafoaaTy
namespace Go.Proofs.Ytdlpiaglgdafoaa
open Go.RowKit Go.Maps

/-- The marks: block T holds f's first n. -/
def ToldAt (w : World) (T n : Nat) (f : Nat → Bool) : Prop := Blk w T 4 ((List.range n).map fun i => Value.bool (f i)).toArray

section
variable {w : World} {T n : Nat} {f : Nat → Bool}
theorem ToldAt.cell (h : ToldAt w T n f) {i : Nat} (hi : i < n) : w.cell? ⟨T, i, none⟩ = some (.bool (f i)) := by
  rw [Blk.cell h i]
  simp [hi]
theorem ToldAt.set (h : ToldAt w T n f) (d : Nat) : ToldAt (w.setCell ⟨T, d, none⟩ (.bool true)) T n (fun i => f i || (i == d)) := by
  have h1 := Blk.set_ h d (.bool true)
  unfold ToldAt
  have e : (((List.range n).map fun i => Value.bool (f i)).toArray.setIfInBounds d (.bool true)) = ((List.range n).map fun i => Value.bool (f i || (i == d))).toArray := by
    rw [List.setIfInBounds_toArray]
    congr 1
    apply List.ext_getElem
    · simp
    · intro i h1 h2
      rw [List.getElem_set]
      simp only [List.getElem_map, List.getElem_range]
      by_cases hd : d = i
      · subst hd; simp
      · rw [if_neg hd]
        have : (i == d) = false := by simpa using fun e => hd e.symm
        rw [this, Bool.or_false]
  rw [e] at h1
  exact h1
theorem told_made {W : World} {g base : Nat} (h : W.ownsRow base 4 1 (.slice (some ⟨g, 0, none⟩) n n) n (madeCells (Value.bool false).cells (n * 1)).toList) : ToldAt W g n (fun _ => false) := by
  obtain ⟨h1, h2⟩ := h
  rcases h2 with ⟨h3, _⟩ | ⟨g', cap', cur, h3, hg, hb, h4⟩
  · cases h3
  · cases h3
    unfold ToldAt Blk
    rw [hb]
    obtain ⟨_, _, h5, h6⟩ := h4
    have e1 : cur.toList = List.replicate n (Value.bool false) := by
      rw [Nat.mul_one] at h5 h6
      have h7 : cur.toList.take n = cur.toList := List.take_of_length_le (by simp; omega)
      rw [h7] at h6
      rw [h6]
      exact toList_madeCells_one (.bool false) n
    have e2 : cur = (List.replicate n (Value.bool false)).toArray := Array.toList_inj.1 (by rw [e1])
    rw [e2]
    congr 2
    simp [List.map_const']
end

structure OnceInv (ns : List Int) (S0 : List KeyD) (last : Int) (S : List KeyD) (f : Nat → Bool) : Prop where
  all : AllOf ns ns.length S0
  left : S = dueK S0 last
  told : ∀ i (hi : i < ns.length), f i = decide (ns[i] ≤ last)

theorem OnceInv.start {ns : List Int} {S0 : List KeyD} (h : AllOf ns ns.length S0) : OnceInv ns S0 (-1) S0 (fun _ => false) := by
  have hge : ∀ p ∈ S0, ¬ p.1 ≤ -1 := fun p hp => by have := mayB_wf (h.ok.may p hp).1; omega
  refine ⟨h, ?_, fun i hi => ?_⟩
  · unfold dueK
    exact (List.filter_eq_self.2 fun p hp => by simpa using hge p hp).symm
  · have := hge (entN ns i) (h.mem.2 ⟨i, hi, rfl⟩)
    rw [AllOf.getD hi] at this
    exact (decide_eq_false this).symm

/-- What is due at time t, one by one. -/
structure DueE (ns : List Int) (last t : Int) (f : Nat → Bool) (E : List KeyD) : Prop where
  each : ∀ k (hk : k < E.length), ∃ i : Nat, ∃ hi : i < ns.length, E[k].2 = (i : Int) ∧ E[k].1 = ns[i] ∧ ns[i] ≤ t ∧ last < ns[i]
  lt : ∀ k (hk : k + 1 < E.length), ltK (E[k]'(by omega)) E[k + 1] = true
  nodup : (E.map (·.2)).Nodup
  le : E.length ≤ 256

/-- The marks when k have come. -/
def markE (f : Nat → Bool) (E : List KeyD) (k : Nat) (i : Nat) : Bool := f i || (E.take k).any fun p => p.2 == (i : Int)

section
variable {ns : List Int} {S0 S : List KeyD} {last t : Int} {f : Nat → Bool} {E : List KeyD}
theorem OnceInv.due (h : OnceInv ns S0 last S f) (t : Int) : DueE ns last t f (S.filter fun p => decide (p.1 ≤ t)) := by
  have ho : QOk S := by rw [h.left]; exact h.all.ok.due last
  have hE : QOk (S.filter fun p => decide (p.1 ≤ t)) := ho.filter _
  refine ⟨fun k hk => ?_, fun k hk => ?_, hE.ids, hE.le⟩
  · have hm := List.getElem_mem hk
    generalize (S.filter fun p => decide (p.1 ≤ t))[k] = x at hm
    obtain ⟨hx, hle⟩ := List.mem_filter.1 hm
    have hle : x.1 ≤ t := by simpa using hle
    rw [h.left] at hx
    obtain ⟨hx0, hgt⟩ := List.mem_filter.1 hx
    have hgt : last < x.1 := by simpa using hgt
    obtain ⟨i, hi, rfl⟩ := h.all.mem.1 hx0
    rw [AllOf.getD hi] at hle hgt ⊢
    exact ⟨i, hi, rfl, rfl, hle, hgt⟩
  · exact (List.pairwise_iff_getElem.1 hE.srt) k (k + 1) (by omega) hk (by omega)
theorem DueE.fresh (h : DueE ns last t f E) (hf : ∀ i (hi : i < ns.length), f i = decide (ns[i] ≤ last)) {k : Nat} (hk : k < E.length) {i : Nat} (hi : i < ns.length) (e : E[k].2 = (i : Int)) (hv : last < ns[i]) : markE f E k i = false := by
  unfold markE
  rw [hf i hi, decide_eq_false (by omega), Bool.false_or, List.any_eq_false]
  intro p hp hpe
  have hpe : p.2 = (i : Int) := by simpa using hpe
  obtain ⟨m, hm, rfl⟩ := List.mem_iff_getElem.1 hp
  rw [List.length_take] at hm
  rw [List.getElem_take] at hpe
  have hn := h.nodup
  have := (List.pairwise_iff_getElem.1 hn) m k (by rw [List.length_map]; omega) (by rw [List.length_map]; omega) (by omega)
  rw [List.getElem_map, List.getElem_map, hpe, e] at this
  exact this rfl
theorem markE_succ {k : Nat} (hk : k < E.length) {i : Nat} (e : E[k].2 = (i : Int)) : (fun j => markE f E k j || (j == i)) = markE f E (k + 1) := by
  funext j
  unfold markE
  rw [List.take_succ_eq_append_getElem hk, List.any_append, Bool.or_assoc]
  congr 2
  simp only [List.any_cons, List.any_nil, Bool.or_false, e]
  by_cases h : j = i
  · subst h; simp
  · have h1 : (j == i) = false := by simpa using h
    have h2 : ((i : Int) == (j : Int)) = false := by simp; omega
    rw [h1, h2]
theorem OnceInv.next (h : OnceInv ns S0 last S f) (ht : last ≤ t) : OnceInv ns S0 t (dueK S t) (markE f (S.filter fun p => decide (p.1 ≤ t)) (S.filter fun p => decide (p.1 ≤ t)).length) := by
  refine ⟨h.all, ?_, fun i hi => ?_⟩
  · rw [h.left]
    unfold dueK
    rw [List.filter_filter]
    apply List.filter_congr
    intro p _
    by_cases h1 : p.1 ≤ t
    · simp [h1]
    · have h2 : ¬ p.1 ≤ last := by omega
      simp [h1, h2]
  · unfold markE
    rw [List.take_length, h.told i hi]
    by_cases h1 : ns[i] ≤ last
    · rw [decide_eq_true h1, decide_eq_true (by omega)]; rfl
    · rw [decide_eq_false h1, Bool.false_or]
      by_cases h2 : ns[i] ≤ t
      · rw [decide_eq_true h2, List.any_eq_true]
        refine ⟨entN ns i, List.mem_filter.2 ⟨?_, ?_⟩, by simp [entN]⟩
        · rw [h.left]
          refine List.mem_filter.2 ⟨h.all.mem.2 ⟨i, hi, rfl⟩, ?_⟩
          rw [AllOf.getD hi]
          simpa using h1
        · rw [AllOf.getD hi]
          simpa using h2
      · rw [decide_eq_false h2, List.any_eq_false]
        intro p hp hpe
        have hpe : p.2 = (i : Int) := by simpa using hpe
        obtain ⟨hpS, hle⟩ := List.mem_filter.1 hp
        have hle : p.1 ≤ t := by simpa using hle
        rw [h.left] at hpS
        obtain ⟨j, hj, rfl⟩ := h.all.mem.1 (List.mem_filter.1 hpS).1
        simp only [entN] at hpe
        obtain rfl : j = i := by omega
        rw [AllOf.getD hi] at hle
        exact h2 hle
end

end Go.Proofs.Ytdlpiaglgdafoaa
