/-
  Masks: Of.
-/
import Derived.Test.YtomoomopodihhaaMask
import Derived.Test.YtomoomopodihhaaInts
import Derived.Deep.LoopGhost
import Derived.Laws.ResultCell
namespace Go.Proofs.Ytomoomopodihhaa
open Go.RowKit Go.Maps

/-- Cores of a mask's, each once. -/
def goodL (L : List Int) : Prop := (∀ c ∈ L, 0 ≤ c ∧ c < 256) ∧ L.Nodup
instance (L : List Int) : Decidable (goodL L) := by unfold goodL; exact inferInstance
def bitsL (L : List Int) : Nat := L.foldl (fun m c => m ||| 2 ^ c.toNat) 0
def ofM (L : List Int) : Nat × Int := if goodL L then (bitsL L, 0) else (0, 1)

theorem bitsL_snoc (L : List Int) (c : Int) : bitsL (L ++ [c]) = bitsL L ||| 2 ^ c.toNat := by simp [bitsL]

theorem bitsL_bit (n : Nat) : ∀ (L : List Int) (m : Nat), (L.foldl (fun m c => m ||| 2 ^ c.toNat) m).testBit n = (m.testBit n || L.any fun c => c.toNat == n)
  | [], m => by simp
  | c :: L, m => by
    rw [List.foldl_cons, bitsL_bit n L, Nat.testBit_or, Nat.testBit_two_pow, List.any_cons, Bool.or_assoc]
    congr 1
theorem bitsL_has {L : List Int} (h : ∀ c ∈ L, 0 ≤ c ∧ c < 256) {c : Int} (h0 : 0 ≤ c) : (bitsL L).testBit c.toNat = true ↔ c ∈ L := by
  unfold bitsL
  rw [bitsL_bit]
  simp only [Nat.zero_testBit, Bool.false_or, List.any_eq_true, beq_iff_eq]
  constructor
  · rintro ⟨d, hd, he⟩
    have := h d hd
    have : d = c := by omega
    rwa [← this]
  · intro hc
    exact ⟨c, hc, rfl⟩

theorem goodL_snoc {L : List Int} {c : Int} (h : goodL L) : goodL (L ++ [c]) ↔ (0 ≤ c ∧ c < 256) ∧ (bitsL L).testBit c.toNat = false := by
  constructor
  · intro hg
    have h1 := hg.1 c (by simp)
    refine ⟨h1, ?_⟩
    rw [← Bool.not_eq_true, bitsL_has h.1 h1.1]
    intro hm
    have := hg.2
    rw [List.nodup_append] at this
    exact this.2.2 c hm c (by simp) rfl
  · rintro ⟨h1, h2⟩
    refine ⟨fun d hd => ?_, ?_⟩
    · rcases List.mem_append.1 hd with hd | hd
      · exact h.1 d hd
      · simp only [List.mem_singleton] at hd; subst hd; exact h1
    · rw [List.nodup_append]
      refine ⟨h.2, by simp, fun a ha b hb e => ?_⟩
      simp only [List.mem_singleton] at hb
      subst hb; subst e
      rw [← Bool.not_eq_true, bitsL_has h.1 h1.1] at h2
      exact h2 ha

theorem goodL_take {L : List Int} (h : goodL L) (k : Nat) : goodL (L.take k) :=
  ⟨fun c hc => h.1 c (List.mem_of_mem_take hc), h.2.sublist (List.take_sublist _ _)⟩

theorem Blk.setM {w : World} {g : Nat} {t : TypeId} {cs : Array Value} (hs : cs.size = 4) (h : Blk w g t cs) (M : Nat) :
    Blk ((((w.setCell ⟨g, 0, none⟩ (.int .u64 (wordM M 0 : Nat))).setCell ⟨g, 1, none⟩ (.int .u64 (wordM M 1 : Nat))).setCell ⟨g, 2, none⟩ (.int .u64 (wordM M 2 : Nat))).setCell ⟨g, 3, none⟩ (.int .u64 (wordM M 3 : Nat))) g t (cellsM M) := by
  have := (((h.set_ 0 (.int .u64 (wordM M 0 : Nat))).set_ 1 (.int .u64 (wordM M 1 : Nat))).set_ 2 (.int .u64 (wordM M 2 : Nat))).set_ 3 (.int .u64 (wordM M 3 : Nat))
  have e : (((cs.setIfInBounds 0 (.int .u64 (wordM M 0 : Nat))).setIfInBounds 1 (.int .u64 (wordM M 1 : Nat))).setIfInBounds 2 (.int .u64 (wordM M 2 : Nat))).setIfInBounds 3 (.int .u64 (wordM M 3 : Nat)) = cellsM M := by
    obtain ⟨l⟩ := cs
    match l, hs with
    | [a, b, c, d], _ => rfl
  rw [e] at this
  exact this
theorem Blk.farM {w : World} {g g' : Nat} {t : TypeId} {cs : Array Value} (h : Blk w g' t cs) (hne : g' ≠ g) (u0 u1 u2 u3 : Value) :
    Blk ((((w.setCell ⟨g, 0, none⟩ u0).setCell ⟨g, 1, none⟩ u1).setCell ⟨g, 2, none⟩ u2).setCell ⟨g, 3, none⟩ u3) g' t cs :=
  (((h.far (p := ⟨g, 0, none⟩) hne _).far (p := ⟨g, 1, none⟩) hne _).far (p := ⟨g, 2, none⟩) hne _).far (p := ⟨g, 3, none⟩) hne _
theorem Fr.setM {S : Nat → Prop} {a w : World} {g : Nat} (h : Fr S a w) (hg : S g ∨ a.heap.size ≤ g) (u0 u1 u2 u3 : Value) :
    Fr S a ((((w.setCell ⟨g, 0, none⟩ u0).setCell ⟨g, 1, none⟩ u1).setCell ⟨g, 2, none⟩ u2).setCell ⟨g, 3, none⟩ u3) :=
  (((h.setCell (p := ⟨g, 0, none⟩) hg _).setCell (p := ⟨g, 1, none⟩) hg _).setCell (p := ⟨g, 2, none⟩) hg _).setCell (p := ⟨g, 3, none⟩) hg _
theorem Blk.cellsM {w : World} {g M : Nat} {t : TypeId} (h : Blk w g t (cellsM M)) :
    w.cell? ⟨g, 0, none⟩ = some (.int .u64 (wordM M 0 : Nat)) ∧ w.cell? ⟨g, 1, none⟩ = some (.int .u64 (wordM M 1 : Nat)) ∧ w.cell? ⟨g, 2, none⟩ = some (.int .u64 (wordM M 2 : Nat)) ∧ w.cell? ⟨g, 3, none⟩ = some (.int .u64 (wordM M 3 : Nat)) :=
  ⟨(h.cell 0).trans (cellsM_get _ _ (by decide)), (h.cell 1).trans (cellsM_get _ _ (by decide)), (h.cell 2).trans (cellsM_get _ _ (by decide)), (h.cell 3).trans (cellsM_get _ _ (by decide))⟩
theorem Blk.frozenM {w : World} {g : Nat} {t : TypeId} {cs : Array Value} (h : Blk w g t cs) :
    w.frozen? ⟨g, 0, none⟩ = false ∧ w.frozen? ⟨g, 1, none⟩ = false ∧ w.frozen? ⟨g, 2, none⟩ = false ∧ w.frozen? ⟨g, 3, none⟩ = false :=
  ⟨h.frozen 0, h.frozen 1, h.frozen 2, h.frozen 3⟩

theorem zero_cells : cellsM 0 = #[.int .u64 0, .int .u64 0, .int .u64 0, .int .u64 0] := by simp [Ytomoomopodihhaa.cellsM, wordM]

/-- Between two rounds of Of. -/
structure OfRel (w wr : World) (L : List Int) (k : Nat) : Prop where
  hk : k ≤ L.length
  good : goodL (L.take k)
  res : Blk wr w.heap.size 103 (cellsM 0)
  cur : Blk wr (w.heap.size + 1) 103 (cellsM (bitsL (L.take k)))
  fr : Fr (fun _ => False) w wr

set_option maxHeartbeats 2000000 in
theorem of_any (w : World) (v : Value) (L : List Int) (h : IntsV w v L) (hl : L.length ≤ maxLen) :
    Calls Try.prog 68 #[v] w fun e w' => e = .returned (.tuple #[valM (ofM L).1, .int .i64 (ofM L).2]) ∧ Fr (fun _ => False) w w' := by
  unfold maxLen at hl
  have HV := Lib.hid h
  obtain ⟨A, cap, rfl, _⟩ := h
  obtain ⟨res, hres⟩ : ∃ r, Hid (r = ofM L) := ⟨_, rfl⟩
  rw [← hres.out]
  have Z0 := (Blk.new w 103 (cellsM 0)).alloc (.cells (cellsM 0) 103)
  have Z1 := Blk.new (w.alloc (.cells (cellsM 0) 103)) 103 (cellsM 0)
  rw [World.size_alloc] at Z1
  have R0 : OfRel w ((w.alloc (.cells (cellsM 0) 103)).alloc (.cells (cellsM 0) 103)) L 0 := ⟨Nat.zero_le _, ⟨by simp, by simp⟩, Z0, by simpa [bitsL] using Z1, ((Fr.refl _ w).alloc _).alloc _⟩
  rw [zero_cells] at R0
  have HR := Lib.hid R0
  clear Z0 Z1 R0
  go_enter Try.func68, Try.ntmps68
  go_wp2
  go_loopw [9] (fun i wr => ∃ k : Nat, i = .int .i64 k ∧ OfRel w wr L k) (fun i _ => L.length - (intOf i).toNat)
  case atStart => exact ⟨0, rfl, HR.out⟩
  case round =>
    obtain ⟨k, rfl, hr⟩ := hrel
    have hk := hr.hk
    by_cases hlt : k < L.length
    · obtain ⟨A', cap', hv, hc⟩ := HV.out.fr0 hr.fr
      cases hv
      obtain ⟨b, off, rfl, c0⟩ := hc k hlt
      have hst : L.take (k + 1) = L.take k ++ [L[k]'hlt] := List.take_succ_eq_append_getElem hlt
      have hgs := goodL_snoc (c := L[k]'hlt) hr.good
      rw [← hst] at hgs
      have hbs := bitsL_snoc (L.take k) (L[k]'hlt)
      rw [← hst] at hbs
      generalize L[k] = c at *
      have hng : ¬ goodL (L.take (k + 1)) → res = (0, 1) := fun hn => by rw [hres.out, ofM, if_neg (fun hg => hn (goodL_take hg _))]
      have HNG := Lib.hid hng
      have HGS := Lib.hid hgs
      have HBS := Lib.hid hbs
      have hcore := fun W => core_any c W
      have hcur := hr.cur
      obtain ⟨m0, m1, m2, m3⟩ := hcur.cellsM
      obtain ⟨f0, f1, f2, f3⟩ := hr.res.frozenM
      have z0 := fun i => hr.res.cell i
      simp only [zero_cells] at z0
      have HRR := Lib.hid hr
      clear hc hst hng hgs hbs hr hcur hres
      by_cases hin : 0 ≤ c ∧ c < 256
      · rw [decide_eq_true hin] at hcore
        obtain ⟨n, rfl⟩ : ∃ n : Nat, c = (n : Int) := ⟨c.toNat, by omega⟩
        have hn : n < 256 := by omega
        have hhas := fun W => has_in (bitsL (L.take k)) n hn W
        by_cases hbit : (bitsL (L.take k)).testBit n = true
        · rw [hbit] at hhas
          obtain rfl : res = (0, 1) := HNG.out (fun hg => by have := (HGS.out.1 hg).2; simp only [Int.toNat_natCast] at this; rw [hbit] at this; cases this)
          generalize bitsL (L.take k) = M at *
          have HC := Lib.hid hcore
          have HH := Lib.hid hhas
          clear hcore hhas HNG
          simp only [valM, Ytomoomopodihhaa.cellsM] at HH
          go_wp2_with fail
          refine (HC.out _).mono ?_
          rintro e w1 ⟨rfl, rfl⟩
          go_wp2_with fail
          refine (HH.out _).mono ?_
          rintro e w2 ⟨rfl, hf2⟩
          have hz2 := HRR.out.res.fr hf2 (fun h => h)
          have y0 := fun i => hz2.cell i
          simp only [zero_cells] at y0
          obtain ⟨y1, y2, y3, y4⟩ := hz2.frozenM
          clear m0 m1 m2 m3 f0 f1 f2 f3 z0
          go_wp2_with fail
          (try simp only [Exit.inBlock, Exit.then])
          refine bodyPost_ret (v := .tuple #[valM 0, .int .i64 1]) ?_ rfl ⟨rfl, (HRR.out.fr.then hf2).setM (Or.inr (Nat.le_refl _)) _ _ _ _⟩
          rw [results_cell_tmp rfl]
          simp only [valM, zero_cells]
          go_simp
        · have hbit : (bitsL (L.take k)).testBit n = false := by simpa using hbit
          rw [hbit] at hhas
          have hw := fun W => with_any (bitsL (L.take k)) n hn W
          have hgood : goodL (L.take (k + 1)) := HGS.out.2 ⟨hin, by simpa using hbit⟩
          have hb2 := HBS.out
          simp only [Int.toNat_natCast] at hb2
          rw [← hb2] at hw
          have hM := HRR.out.cur
          generalize bitsL (L.take k) = M at *
          generalize hM' : bitsL (L.take (k + 1)) = M' at *
          have HC := Lib.hid hcore
          have HH := Lib.hid hhas
          have HWT := Lib.hid hw
          have HG := Lib.hid hgood
          have HMM := Lib.hid hM'
          have HCU := Lib.hid hM
          clear hcore hhas hw hgood hM' hM hb2 HNG HGS HBS
          simp only [valM, Ytomoomopodihhaa.cellsM] at HH HWT
          go_wp2_with fail
          refine (HC.out _).mono ?_
          rintro e w1 ⟨rfl, rfl⟩
          go_wp2_with fail
          refine (HH.out _).mono ?_
          rintro e w2 ⟨rfl, hf2⟩
          have hc2 := HCU.out.fr hf2 (fun h => h)
          obtain ⟨n0, n1, n2, n3⟩ := hc2.cellsM
          clear m0 m1 m2 m3 f0 f1 f2 f3 z0
          go_wp2_with fail
          refine (HWT.out _).mono ?_
          rintro e w3 ⟨rfl, hf3⟩
          have hc3 := hc2.fr hf3 (fun h => h)
          obtain ⟨o0, o1, o2, o3⟩ := hc3.cellsM
          obtain ⟨g0, g1, g2, g3⟩ := hc3.frozenM
          have hz3 := (HRR.out.res.fr hf2 (fun h => h)).fr hf3 (fun h => h)
          have hF3 := (HRR.out.fr.then hf2).then hf3
          clear n0 n1 n2 n3
          go_wp2_with fail
          go_roundw
          case rel =>
            refine ⟨k + 1, by go_num, ⟨hlt, HG.out, hz3.farM (by omega) _ _ _ _, ?_, hF3.setM (Or.inr (by omega)) _ _ _ _⟩⟩
            rw [HMM.out]
            exact hc3.setM rfl M'
          case measure => simp [intOf]; omega
      · rw [decide_eq_false hin] at hcore
        obtain rfl : res = (0, 1) := HNG.out (fun hg => hin (HGS.out.1 hg).1)
        have HC := Lib.hid hcore
        clear hcore HNG
        go_wp2_with fail
        refine (HC.out _).mono ?_
        rintro e w1 ⟨rfl, rfl⟩
        go_wp2_with fail
        (try simp only [Exit.inBlock, Exit.then])
        refine bodyPost_ret (v := .tuple #[valM 0, .int .i64 1]) ?_ rfl ⟨rfl, HRR.out.fr.setM (Or.inr (Nat.le_refl _)) _ _ _ _⟩
        rw [results_cell_tmp rfl]
        simp only [valM, zero_cells]
        go_simp
    · obtain rfl : k = L.length := by omega
      have hg := hr.good
      have hcur := hr.cur
      have hzero := hr.res
      have hfr := hr.fr
      rw [List.take_length] at hg hcur
      have hres2 : res = (bitsL L, 0) := by rw [hres.out, ofM, if_pos hg]
      subst hres2
      obtain ⟨c0, c1, c2, c3⟩ := hcur.cellsM
      have z0 := fun i => hzero.cell i
      obtain ⟨f0, f1, f2, f3⟩ := hzero.frozenM
      simp only [zero_cells] at z0
      clear hres HR HV hr hcur
      have HF := Lib.hid hfr
      clear hfr
      go_wp2
      (try simp only [Exit.inBlock, Exit.then])
      refine bodyPost_ret (v := .tuple #[valM (bitsL L), .int .i64 0]) ?_ rfl ⟨rfl, HF.out.setM (Or.inr (Nat.le_refl _)) _ _ _ _⟩
      rw [results_cell_tmp rfl]
      unfold valM cellsM
      go_simp

end Go.Proofs.Ytomoomopodihhaa
