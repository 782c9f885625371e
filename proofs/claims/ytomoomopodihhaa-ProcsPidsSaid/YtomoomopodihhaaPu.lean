/-
  The laws' arguments; 'small'.
-/
import Derived.Test.YtomoomopodihhaaLaw
import Derived.Test.YtomoomopodihhaaPs
import Derived.Deep.Slices
namespace Go.Proofs.Ytomoomopodihhaa
open Go.ChangeShapes Go.WideShapes Go.ChangeAt Go.RowKit Go.Deep

theorem lit_wf {n : Int} (h : (Lit.int .i64 n).wf = true) : wf64 n := by
  simp [Lit.wf, IntKind.min, IntKind.max, IntKind.signed, IntKind.bits] at h
  exact h
theorem cells3 : Try.prog.cellsOf 3 = 1 := by kernel_rfl
theorem cells45 : Try.prog.cellsOf 45 = 1 := by kernel_rfl
theorem cells61 : Try.prog.cellsOf 61 = 8 := by kernel_rfl
theorem cells63 : Try.prog.cellsOf 63 = 11 := by kernel_rfl
theorem own : ownKnob Try.prog.godebug = none := by kernel_rfl
theorem laidOut : laidOutB Try.prog = true := by kernel_rfl

/-- A slice of numbers that an argument holds. -/
structure CoresA (W : World) (v : Value) (ns : List Int) : Prop where
  ints : IntsV W v ns
  cap : ns.length ≤ capV v
  nil : ∀ n c, v = .slice none n c → c = 0
  lt : 0 < ns.length → ∀ g, v.ownBlock = some g → g < W.heap.size
  le : ns.length ≤ maxLen

/-- A script lies behind an address below block B. -/
structure OpsP (w : World) (B : Nat) (A : Option Addr) (l : List OpP) : Prop where
  at_ : ∀ k (hk : k < l.length), ∃ b off, A = some ⟨b, off, none⟩ ∧ b < B ∧ ∀ j u, (l[k]'hk).cells[j]? = some u → w.cell? ⟨b, off + k * 11 + j, none⟩ = some u
  wf : ∀ o ∈ l, wf64 o.pid
  cor : ∀ o ∈ l, CoresA w o.x.cv o.x.ns

instance : Inhabited OpP := ⟨⟨0, 0, 0, zeroT⟩⟩

section
variable {H : Type} {enc : TypeId × Value → H} {W : World} {sp : Nat → Bool}

theorem int_cell {fuel : Nat} {c : Value} {y : Option (DataW H × List MemPlace)} (h : DataW.trod enc Try.prog W 0 sp true fuel 3 [c] = y) (hy : y.isSome = true) : ∃ n, c = .int .i64 n ∧ wf64 n := by
  obtain ⟨x, rfl⟩ := Option.isSome_iff_exists.1 hy
  obtain ⟨n, h1, _, h3⟩ := DataW.trod_int Try.underlying3 h
  exact ⟨n, by simpa using h1, lit_wf h3⟩

theorem cores_cell {fuel : Nat} {c : Value} {y : Option (DataW H × List MemPlace)} (h : DataW.trod enc Try.prog W 0 sp true fuel 45 [c] = y) (hy : y.isSome = true) : ∃ ns, CoresA W c ns := by
  obtain ⟨x, rfl⟩ := Option.isSome_iff_exists.1 hy
  rcases open_ints Try.underlying45 Try.underlying3 cells3 h with ⟨h1, _⟩ | ⟨a, len, cap, zs, h1, _, h2, h3, h4, _, h5, h6⟩
  · have h1 : c = .slice none 0 0 := by simpa using h1
    rw [h1]
    exact ⟨[], ⟨none, 0, rfl, fun k hk => by simp at hk⟩, Nat.zero_le _, (fun n c e => by cases e; rfl), (fun _ g hg => by cases hg), by simp [maxLen]⟩
  · have hle : len ≤ zs.length := by rw [h4]; split <;> omega
    have h1 : c = .slice (some a) len cap := by simpa using h1
    rw [h1]
    have hz : (zs.take len).length = len := by rw [List.length_take]; omega
    have hc0 : 0 < len → ∃ b off, a = ⟨b, off, none⟩ ∧ b < W.heap.size := fun h0 => by
      have hc := h5 0 (by omega)
      obtain ⟨b, off, spot⟩ := a
      have hspot : spot = none := by simpa [Addr.add] using World.cell?_spot hc
      subst hspot
      exact ⟨b, off, rfl, World.block_lt_of_cell? W _ (by simpa [Addr.add] using hc)⟩
    refine ⟨zs.take len, ⟨some a, cap, by rw [hz], fun k hk => ?_⟩, by rw [hz]; exact h2, (fun n c e => by cases e), fun h0 g hg => ?_, by rw [hz]; omega⟩
    · rw [hz] at hk
      obtain ⟨b, off, rfl, hb⟩ := hc0 (by omega)
      refine ⟨b, off, rfl, ?_⟩
      have := h5 k (by omega)
      rw [List.getElem_take]
      have e : zs.getD k 0 = zs[k]'(by omega) := by rw [List.getD_eq_getElem?_getD, List.getElem?_eq_getElem (by omega)]; rfl
      rw [e] at this
      by_cases hk0 : k = 0
      · subst hk0; simpa [Addr.add] using this
      · simpa [Addr.add, hk0] using this
    · rw [hz] at h0
      obtain ⟨b, off, rfl, hb⟩ := hc0 h0
      have : b = g := by simpa [Value.ownBlock] using hg
      omega

set_option maxRecDepth 100000 in
theorem task_cells {fuel : Nat} {cs : List Value} {y : Option (DataW H × List MemPlace)} (h : DataW.trod enc Try.prog W 0 sp true fuel 61 cs = y) (hy : y.isSome = true) :
    ∃ x : TaskD, cs = x.cells ∧ CoresA W x.cv x.ns := by
  obtain ⟨x, rfl⟩ := Option.isSome_iff_exists.1 hy
  obtain ⟨xs, n, _, _, hcl, hlen, hg⟩ := DataW.trod_struct Try.underlying61 h
  rw [cells61] at hcl
  match cs, hcl with
  | [c0, c1, c2, c3, c4, c5, c6, c7], _ =>
    have some_ : ∀ i, i < 8 → (xs[i]?).isSome = true := fun i hi => by
      have : xs.length = 8 := hlen
      simp [this, hi]
    obtain ⟨n0, rfl, w0⟩ := int_cell (by simpa [cells3] using hg 0 _ rfl) (some_ 0 (by omega))
    obtain ⟨n1, rfl, w1⟩ := int_cell (by simpa [cells3] using hg 1 _ rfl) (some_ 1 (by omega))
    obtain ⟨n2, rfl, w2⟩ := int_cell (by simpa [cells3] using hg 2 _ rfl) (some_ 2 (by omega))
    obtain ⟨n3, rfl, w3⟩ := int_cell (by simpa [cells3] using hg 3 _ rfl) (some_ 3 (by omega))
    obtain ⟨n4, rfl, w4⟩ := int_cell (by simpa [cells3] using hg 4 _ rfl) (some_ 4 (by omega))
    obtain ⟨ns, hc⟩ := cores_cell (by simpa [cells45] using hg 5 _ rfl) (some_ 5 (by omega))
    obtain ⟨n6, rfl, w6⟩ := int_cell (by simpa [cells3] using hg 6 _ rfl) (some_ 6 (by omega))
    obtain ⟨n7, rfl, w7⟩ := int_cell (by simpa [cells3] using hg 7 _ rfl) (some_ 7 (by omega))
    exact ⟨⟨n0, n1, n2, n3, n4, c5, ns, n6, n7⟩, rfl, hc⟩

set_option maxRecDepth 100000 in
theorem op_cells63 {fuel : Nat} {cs : List Value} {y : DataW H × List MemPlace} (h : DataW.trod enc Try.prog W 0 sp true fuel 63 cs = some y) :
    ∃ o : OpP, cs = o.cells ∧ wf64 o.pid ∧ CoresA W o.x.cv o.x.ns := by
  obtain ⟨xs, n, _, _, hcl, hlen, hg⟩ := DataW.trod_struct Try.underlying63 h
  rw [cells63] at hcl
  match cs, hcl with
  | [c0, c1, c2, c3, c4, c5, c6, c7, c8, c9, c10], _ =>
    have some_ : ∀ i, i < 4 → (xs[i]?).isSome = true := fun i hi => by
      have : xs.length = 4 := hlen
      simp [this, hi]
    obtain ⟨n0, rfl, w0⟩ := int_cell (by simpa [cells3] using hg 0 _ rfl) (some_ 0 (by omega))
    obtain ⟨n1, rfl, w1⟩ := int_cell (by simpa [cells3] using hg 1 _ rfl) (some_ 1 (by omega))
    obtain ⟨n2, rfl, w2⟩ := int_cell (by simpa [cells3] using hg 2 _ rfl) (some_ 2 (by omega))
    obtain ⟨x, hx, hc⟩ := task_cells (by simpa [cells61] using hg 3 _ rfl) (some_ 3 (by omega))
    refine ⟨⟨n0, n1, n2, x⟩, ?_, w1, hc⟩
    unfold OpP.cells
    rw [← hx]

set_option maxRecDepth 100000 in
theorem op_arg {r : Reach} {b0 : Nat} {v : Value} {d : DataW H} {p : List MemPlace} (hv : Value.okWide Try.prog W r b0 63 v) (h : DataW.Trod enc Try.prog W 0 sp true 63 v d p) :
    ∃ o : OpP, v = o.val ∧ wf64 o.pid ∧ CoresA W o.x.cv o.x.ns := by
  obtain ⟨cs, rfl, _⟩ := okWide_struct Try.underlying63 hv
  obtain ⟨fuel, hf⟩ := h
  obtain ⟨o, h1, h2⟩ := op_cells63 hf
  refine ⟨o, ?_, h2⟩
  have : cs = o.cells.toArray := Array.toList_inj.1 (by simpa [Value.cells] using h1)
  rw [this]
  rfl

set_option maxRecDepth 100000 in
theorem script_arg {r : Reach} {b0 : Nat} {v : Value} {d : DataW H} {p : List MemPlace} (hv : Value.okWide Try.prog W r b0 51 v) (h : DataW.Trod enc Try.prog W 0 sp true 51 v d p) :
    ∃ A l cap, v = .slice A (List.length l) cap ∧ OpsP W W.heap.size A l ∧ l.length ≤ maxLen := by
  obtain ⟨a0, len, cap, rfl⟩ := okWide_slice Try.underlying51 hv
  obtain ⟨fuel, h⟩ := h
  rcases open_slice Try.underlying51 h with ⟨h1, _⟩ | ⟨a, len, cap, m, n, D, Pl, h1, _, h2, h3, hm, _, h5⟩
  · exact ⟨none, [], 0, by simpa [Value.cells] using h1, ⟨fun k hk => by simp at hk, by simp, by simp⟩, by simp [maxLen]⟩
  · have hlm : len ≤ m := by rw [hm]; split <;> omega
    rw [cells63] at h5
    obtain ⟨f, hf⟩ := choose_lt (α := OpP) (p := fun i o => (∀ j u, o.cells[j]? = some u → W.cell? ((a.add (i * 11)).add j) = some u) ∧ wf64 o.pid ∧ CoresA W o.x.cv o.x.ns) (n := m) (fun i hi => by
      obtain ⟨cs', hc, ht⟩ := h5 i hi
      obtain ⟨o, rfl, hw⟩ := op_cells63 ht
      obtain ⟨_, _, hcell⟩ := World.cells?_some hc
      refine ⟨o, fun j u hu => ?_, hw⟩
      have hj : j < 11 := by
        have := (List.getElem?_eq_some_iff.mp hu).1
        exact this
      rw [hcell j hj]
      simpa using hu)
    refine ⟨some a, (List.range len).map f, cap, by simpa [Value.cells] using h1, ⟨fun k hk => ?_, ?_, ?_⟩, by simp; omega⟩
    · simp only [List.length_map, List.length_range] at hk
      have h0 := (hf 0 (by omega)).1 0 _ rfl
      obtain ⟨b, off, spot⟩ := a
      have hspot : spot = none := by simpa [Addr.add] using World.cell?_spot h0
      subst hspot
      refine ⟨b, off, rfl, World.block_lt_of_cell? W _ (by simpa [Addr.add] using h0), fun j u hu => ?_⟩
      simp only [List.getElem_map, List.getElem_range] at hu
      have := (hf k (by omega)).1 j u hu
      by_cases hk0 : k = 0
      · subst hk0
        by_cases hj0 : j = 0
        · subst hj0; simpa [Addr.add] using this
        · simpa [Addr.add, hj0] using this
      · have hk1 : k * 11 ≠ 0 := by omega
        by_cases hj0 : j = 0
        · subst hj0; simpa [Addr.add, hk1] using this
        · simpa [Addr.add, hk1, hj0] using this
    · intro o ho
      obtain ⟨i, hi, rfl⟩ := List.mem_map.mp ho
      rw [List.mem_range] at hi
      exact (hf i (by omega)).2.1
    · intro o ho
      obtain ⟨i, hi, rfl⟩ := List.mem_map.mp ho
      rw [List.mem_range] at hi
      exact (hf i (by omega)).2.2
end

theorem CoresA.ok {w W : World} {B : Nat} {v : Value} {ns : List Int} (h : CoresA w v ns) (hB : B = w.heap.size) (hf : Fr (fun i => B ≤ i) w W) (hl : ns.length ≤ 300) : CoresOk W v ns :=
  CoresOk.frL (⟨h.ints, h.cap, h.nil, by omega⟩ : CoresOk w v ns) hf (fun h0 g hg hi => by have := h.lt h0 g hg; omega)

theorem OpsP.el {w W : World} {A : Option Addr} {l : List OpP} (h : OpsP w w.heap.size A l) (hf : Fr (fun i => w.heap.size ≤ i) w W) {k : Nat} (hk : k < l.length) :
    ∃ g off, A = some ⟨g, off, none⟩ ∧ ∀ j u, (l[k]'hk).cells[j]? = some u → W.cell? ⟨g, off + k * 11 + j, none⟩ = some u := by
  obtain ⟨b, off, rfl, hB, hc⟩ := h.at_ k hk
  refine ⟨b, off, rfl, fun j u hu => ?_⟩
  rw [World.cell?_of_block (a := ⟨b, off + k * 11 + j, none⟩) (hf.block b (by omega) (by omega))]
  exact hc j u hu

theorem OpsP.op {w W : World} {B : Nat → Prop} {A : Option Addr} {l : List OpP} (h : OpsP w w.heap.size A l) (hf : Fr (fun i => w.heap.size ≤ i) w W) (hs : ∀ o ∈ l, o.x.ns.length ≤ 300) (hB : ∀ i, B i → w.heap.size ≤ i) {o : OpP} (ho : o ∈ l) : OpOk W B o :=
  ⟨h.wf o ho, (h.cor o ho).ok rfl hf (hs o ho), fun h0 g hg hb => by have := (h.cor o ho).lt h0 g hg; have := hB g hb; omega⟩

def smallP (l : List OpP) (most : Int) : Bool := l.all (fun o => decide (o.x.ns.length ≤ 300)) && decide ((l.length : Int) ≤ most)

set_option maxRecDepth 20000 in
set_option maxHeartbeats 1000000 in
theorem small32_any (w : World) (A : Option Addr) (cap : Nat) (l : List OpP) (h : OpsP w w.heap.size A l) (hl : l.length ≤ maxLen) (most : Int) :
    Calls Try.prog 32 #[.slice A l.length cap, .int .i64 most] w fun e w' => e = .returned (.bool (smallP l most)) ∧ Fr (fun _ => False) w w' := by
  have HO := Lib.hid h
  unfold maxLen at hl
  clear h
  go_enter Try.func32, Try.ntmps32
  go_wp2_with fail
  go_loopw [5] (fun i wr => ∃ k : Nat, k ≤ l.length ∧ i = .int .i64 k ∧ Hid ((l.take k).all (fun o => decide (o.x.ns.length ≤ 300)) = true) ∧ Hid (Fr (fun _ => False) w wr)) (fun i _ => l.length - (intOf i).toNat)
  case atStart => exact ⟨0, Nat.zero_le _, rfl, rfl, Fr.refl _ _⟩
  case round =>
    obtain ⟨k, hk, rfl, hall, hf⟩ := hrel
    by_cases hlt : k < l.length
    · obtain ⟨g, off, rfl, hc⟩ := HO.out.el (hf.out.mono (fun _ _ h => h.elim)) hlt
      have c8 := hc 8 _ rfl
      have hin := (HO.out.cor _ (List.getElem_mem hlt)).ints.sh
      have hmx := (HO.out.cor _ (List.getElem_mem hlt)).le
      have hst : (l.take (k + 1)).all (fun o => decide (o.x.ns.length ≤ 300)) = ((l.take k).all (fun o => decide (o.x.ns.length ≤ 300)) && decide ((l[k]'hlt).x.ns.length ≤ 300)) := by
        rw [List.take_succ_eq_append_getElem hlt, List.all_append]
        simp
      have hbad : ¬ (l[k]'hlt).x.ns.length ≤ 300 → smallP l most = false := fun hb => by
        unfold smallP
        have : l.all (fun o => decide (o.x.ns.length ≤ 300)) = false := by
          rw [List.all_eq_false]
          exact ⟨_, List.getElem_mem hlt, by simpa using hb⟩
        rw [this]; rfl
      have HST := Lib.hid hst
      have HBAD := Lib.hid hbad
      clear hc hst hbad
      generalize (l[k]'hlt).x = x at *
      obtain ⟨xp, xj, xe, xs, xr, xc, xn, xt, xo⟩ := x
      obtain ⟨A', cap', hv⟩ := hin
      have hv : xc = .slice A' xn.length cap' := hv
      subst hv
      have hmx : xn.length ≤ maxLen := hmx
      unfold maxLen at hmx
      simp only at c8 HST HBAD
      by_cases h3 : xn.length ≤ 300
      · have b1 : decide ((300 : Int) < (xn.length : Int)) = false := decide_eq_false (by omega)
        go_wp2
        go_roundw
        case rel => exact ⟨k + 1, by omega, by go_num, Lib.hid (by rw [HST.out, hall.out]; simpa using h3), hf⟩
        case measure => simp [intOf]; omega
      · have b1 : decide ((300 : Int) < (xn.length : Int)) = true := decide_eq_true (by omega)
        go_wp2
        go_ret
        exact ⟨by rw [HBAD.out h3]; rfl, hf.out⟩
    · obtain rfl : k = l.length := by omega
      have hs : smallP l most = decide ((l.length : Int) ≤ most) := by
        unfold smallP
        have := hall.out
        rw [List.take_length] at this
        rw [this, Bool.true_and]
      have HS := Lib.hid hs
      clear hs
      go_wp2
      go_ret
      exact ⟨by rw [HS.out]; rfl, hf.out⟩

theorem smallP_true {l : List OpP} {most : Int} (h : smallP l most = true) : (∀ o ∈ l, o.x.ns.length ≤ 300) ∧ (l.length : Int) ≤ most := by
  unfold smallP at h
  rw [Bool.and_eq_true] at h
  exact ⟨fun o ho => by have := List.all_eq_true.1 h.1 o ho; simpa using this, by simpa using h.2⟩

end Go.Proofs.Ytomoomopodihhaa
