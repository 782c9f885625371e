/-
  ProcsHeld, walked.
-/
import Derived.Test.YtomoomopodihhaaPu
import Derived.Test.YtomoomopodihhaaPv
import Derived.Test.YtomoomopodihhaaPx
namespace Go.Proofs.Ytomoomopodihhaa
open Go.RowKit Go.Maps

theorem info4 : (Try.prog.info? 4).map (fun i => (i.zero, i.size, i.bytes)) = some (some (.bool false), 1, 1) := by kernel_rfl

/-- The marks: block T holds f's first n. -/
def ToldAt (w : World) (T n : Nat) (f : Nat → Bool) : Prop := Blk w T 4 ((List.range n).map fun i => Value.bool (f i)).toArray

section
variable {w : World} {T n : Nat} {f : Nat → Bool}
theorem ToldAt.cell (h : ToldAt w T n f) {i : Nat} (hi : i < n) : w.cell? ⟨T, i, none⟩ = some (.bool (f i)) := by
  rw [Blk.cell h i]
  simp [hi]
theorem ToldAt.set (h : ToldAt w T n f) (d : Nat) : ToldAt (w.setCell ⟨T, d, none⟩ (.bool true)) T n (fun i => f i || (i == d)) := by
  have h1 := Blk.set_ h d (.bool true)
  unfold ToldAt
  have e : (((List.range n).map fun i => Value.bool (f i)).toArray.setIfInBounds d (.bool true)) = ((List.range n).map fun i => Value.bool (f i || (i == d))).toArray := by
    rw [List.setIfInBounds_toArray]
    congr 1
    apply List.ext_getElem
    · simp
    · intro i h1 h2
      rw [List.getElem_set]
      simp only [List.getElem_map, List.getElem_range]
      by_cases hd : d = i
      · subst hd; simp
      · rw [if_neg hd]
        have : (i == d) = false := by simpa using fun e => hd e.symm
        rw [this, Bool.or_false]
  rw [e] at h1
  exact h1
theorem told_made {W : World} {g base : Nat} (h : W.ownsRow base 4 1 (.slice (some ⟨g, 0, none⟩) n n) n (madeCells (Value.bool false).cells (n * 1)).toList) : ToldAt W g n (fun _ => false) := by
  obtain ⟨h1, h2⟩ := h
  rcases h2 with ⟨h3, _⟩ | ⟨g', cap', cur, h3, hg, hb, h4⟩
  · cases h3
  · cases h3
    unfold ToldAt Blk
    rw [hb]
    obtain ⟨_, _, h5, h6⟩ := h4
    have e1 : cur.toList = List.replicate n (Value.bool false) := by
      rw [Nat.mul_one] at h5 h6
      have h7 : cur.toList.take n = cur.toList := List.take_of_length_le (by simp; omega)
      rw [h7] at h6
      rw [h6]
      exact toList_madeCells_one (.bool false) n
    have e2 : cur = (List.replicate n (Value.bool false)).toArray := Array.toList_inj.1 (by rw [e1])
    rw [e2]
    congr 2
    simp [List.map_const']
end

theorem list_mem {T : List TaskD} {K : List (TaskD × Int)} (h : T.map TaskD.abs = K.map (·.1)) {i : Nat} (hi : i < T.length) : ∃ p ∈ K, p.1 = (T[i]'hi).abs ∧ ∃ hk : i < K.length, p = K[i]'hk := by
  have hk : i < K.length := by
    have := congrArg List.length h
    simp at this
    omega
  refine ⟨K[i]'hk, List.getElem_mem hk, ?_, hk, rfl⟩
  have h1 : (T.map TaskD.abs)[i]? = (K.map (·.1))[i]? := by rw [h]
  simp [hi, hk] at h1
  exact h1.symm

/-- Between two rounds of 'ProcsHeld'. -/
def HeldRel (w : World) (n0 t k g : Nat) (i : Value) (wr : World) : Prop :=
  ∃ (n : Nat) (K : List (TaskD × Int)) (last : Int) (f : Nat → Bool), n ≤ n0 ∧ i = .int .i64 n ∧ DSt wr t k n (fun i => w.heap.size ≤ i ∧ i ≠ g) K last ∧ HeldI K f ∧ last ≤ n ∧ ToldAt wr g 61 f ∧ Fr (fun i => w.heap.size ≤ i) w wr ∧ g < wr.heap.size ∧ w.heap.size ≤ g

theorem RTab.new (w : World) : RT (w.alloc (.cells #[.slice none 0 0, .slice none 0 0, .int .i64 0] 58)) w.heap.size 0 (fun i => i = w.heap.size) := by
  refine ⟨.slice none 0 0, .slice none 0 0, 0, [], [], ⟨Blk.new _ _ _, World.ownsRow_nil _ _ _ _, World.ownsRow_nil _ _ _ _, rfl, (fun x hx => by cases hx), (fun x hx => by cases hx), (fun x hx => by cases hx)⟩, Nat.le_refl _, by omega, by omega, ?_⟩
  funext i
  apply propext
  unfold ownR
  refine ⟨fun h => Or.inl h, fun h => ?_⟩
  rcases h with h | h | h | ⟨x, hx, _⟩
  · exact h
  · cases h
  · cases h
  · cases hx

theorem bx11 {W : World} {g : Nat} {a0 a1 a2 a3 a4 a5 a6 a7 a8 a9 b0 : Value} (h : Blk W g 63 #[a0, a1, a2, a3, a4, a5, a6, a7, a8, a9, b0]) :
    W.cell? ⟨g, 0, none⟩ = some a0 ∧ W.cell? ⟨g, 1, none⟩ = some a1 ∧ W.cell? ⟨g, 2, none⟩ = some a2 ∧ W.cell? ⟨g, 3, none⟩ = some a3 ∧ W.cell? ⟨g, 4, none⟩ = some a4 ∧ W.cell? ⟨g, 5, none⟩ = some a5 ∧ W.cell? ⟨g, 6, none⟩ = some a6 ∧ W.cell? ⟨g, 7, none⟩ = some a7 ∧ W.cell? ⟨g, 8, none⟩ = some a8 ∧ W.cell? ⟨g, 9, none⟩ = some a9 ∧ W.cell? ⟨g, 10, none⟩ = some b0 :=
  ⟨h.cell 0, h.cell 1, h.cell 2, h.cell 3, h.cell 4, h.cell 5, h.cell 6, h.cell 7, h.cell 8, h.cell 9, h.cell 10⟩
theorem ar11 {W : World} {g off : Nat} {a0 a1 a2 a3 a4 a5 a6 a7 a8 a9 b0 : Value} (h : ∀ j u, [a0, a1, a2, a3, a4, a5, a6, a7, a8, a9, b0][j]? = some u → W.cell? ⟨g, off + j, none⟩ = some u) :
    W.cell? ⟨g, off, none⟩ = some a0 ∧ W.cell? ⟨g, off + 1, none⟩ = some a1 ∧ W.cell? ⟨g, off + 2, none⟩ = some a2 ∧ W.cell? ⟨g, off + 3, none⟩ = some a3 ∧ W.cell? ⟨g, off + 4, none⟩ = some a4 ∧ W.cell? ⟨g, off + 5, none⟩ = some a5 ∧ W.cell? ⟨g, off + 6, none⟩ = some a6 ∧ W.cell? ⟨g, off + 7, none⟩ = some a7 ∧ W.cell? ⟨g, off + 8, none⟩ = some a8 ∧ W.cell? ⟨g, off + 9, none⟩ = some a9 ∧ W.cell? ⟨g, off + 10, none⟩ = some b0 :=
  ⟨h 0 _ rfl, h 1 _ rfl, h 2 _ rfl, h 3 _ rfl, h 4 _ rfl, h 5 _ rfl, h 6 _ rfl, h 7 _ rfl, h 8 _ rfl, h 9 _ rfl, h 10 _ rfl⟩

set_option maxRecDepth 20000 in
set_option maxHeartbeats 4000000 in
theorem procsHeld9_any (w : World) (A : Option Addr) (cap : Nat) (L : List OpP) (h : OpsP w w.heap.size A L) (hl : L.length ≤ maxLen) :
    Calls Try.prog 9 #[.slice A L.length cap] w fun e w' => e = .returned (.bool true) ∧ Fr (fun i => w.heap.size ≤ i) w w' := by
  have HO := Lib.hid h
  obtain ⟨i0, gi, gz0, gz1, gz2⟩ := info_parts info4
  have C32 := small32_any w A cap L h hl 60
  obtain ⟨sm, hsm⟩ : ∃ sm, smallP L 60 = sm := ⟨_, rfl⟩
  rw [hsm] at C32
  have C32 := Lib.hid C32
  have HSM := Lib.hid hsm
  unfold maxLen at hl
  clear h hsm
  go_enter Try.func9, Try.ntmps9
  go_wp2_with fail
  refine C32.out.mono ?_
  rintro e w1 ⟨rfl, hf1⟩
  have HF1 := Lib.hid (hf1.mono (S' := fun i => w.heap.size ≤ i) (fun _ _ h => h.elim))
  clear hf1
  cases sm with
  | false =>
    go_wp2_with fail
    refine (live33_any _).mono ?_
    rintro e w2 ⟨rfl, hf2⟩
    go_wp2
    go_ret
    exact ⟨rfl, HF1.out.then (hf2.mono (fun _ _ h => h.elim))⟩
  | true =>
    obtain ⟨hs3, hL60⟩ := smallP_true HSM.out
    have HS3 := Lib.hid hs3
    have hL60 : L.length ≤ 60 := by omega
    have HN := Lib.hid (new_ps w1)
    clear hs3
    go_wp2_with fail
    refine HN.out.mono ?_
    rintro e w2 ⟨t, rfl, ⟨X, hX1, hX2, _⟩, hf2⟩
    have hfb : Fr (fun _ => False) w2 (w2.alloc (.cells #[.slice none 0 0, .slice none 0 0, .int .i64 0] 58)) := (Fr.refl _ w2).alloc _
    have hsz1 := HF1.out.size
    have hD : DSt (w2.alloc (.cells #[.slice none 0 0, .slice none 0 0, .int .i64 0] 58)) t w2.heap.size 0 (fun i => w.heap.size ≤ i ∧ i ≠ w2.heap.size + 1) [] 0 := by
      refine ⟨X, _, hX1.fr0 hfb, RTab.new w2, fun i hi h => ?_, fun i hi => ⟨?_, ?_⟩, fun i hi => ⟨?_, ?_⟩⟩
      · have := hX1.lt hi; omega
      · have := hX2 i hi; omega
      · have := hX1.lt hi; omega
      · have := hf2.size; omega
      · omega
    have HD := Lib.hid hD
    have HF2 := Lib.hid ((HF1.out.then (hf2.mono (fun _ _ h => h.elim))).then (hfb.mono (fun _ _ h => h.elim)))
    have hsz2 := hf2.size
    clear hX1 hX2 hD hf2 hfb
    go_wp2_with (at_make; refine wpList_make_full _ rfl _ _ 59 rfl 0 4 i0 (.bool false) 1 Try.underlying59 gi gz0 gz1 .i64 .i64 _ _ 61 rfl rfl rfl rfl (by rw [gz2]; omega) (by unfold maxLen; omega) (Nat.zero_le _) ?_; intro w3 hown3 hgrow3)
    have hFg := Fr.of_grown (S := fun _ => False) hgrow3 (fun k hk => by cases hk)
    have HR := Lib.hid (show HeldRel w L.length t w2.heap.size (w2.heap.size + 1) (.int .i64 (0 : Nat)) w3 from ⟨0, [], 0, fun _ => false, Nat.zero_le _, rfl, HD.out.fr0 hFg, (fun p hp => by cases hp), by omega, told_made (by simpa using hown3), HF2.out.then (hFg.mono (fun _ _ h => h.elim)), Blk.lt (told_made (g := w2.heap.size + 1) (n := 61) (base := 0) (by simpa using hown3)), by omega⟩)
    clear hown3 hgrow3 hFg
    obtain ⟨k, hk⟩ : ∃ k, k = w2.heap.size := ⟨_, rfl⟩
    rw [← hk] at HR
    rw [← hk]
    obtain ⟨g, hg⟩ : ∃ g, g = k + 1 := ⟨_, rfl⟩
    rw [← hg] at HR ⊢
    clear hk hg HD HF2
    go_loopw [6] (fun i wr => HeldRel w L.length t k g i wr) (fun i _ => L.length - (intOf i).toNat)
    case atStart => exact HR.out
    case round =>
      obtain ⟨n, K, last, f, hn, rfl, hD, hI, hla, hT, hF, hg1, hg2⟩ := hrel
      by_cases hlt : n < L.length
      · obtain ⟨b, off, rfl, hc⟩ := HO.out.el hF hlt
        have hokf := fun (W : World) (B : Nat → Prop) (hW : Fr (fun i => w.heap.size ≤ i) w W) (hB : ∀ i, B i → w.heap.size ≤ i) => HO.out.op hW HS3.out hB (List.getElem_mem hlt)
        generalize (L[n]'hlt) = o at *
        have hI4 := held_step (o := o) hD.ok hI (by omega)
        have hl4 := (doesL_le (K := K) (last := last) (o := o))
        obtain ⟨do_, pid, nn, xp, xj, xe, xs, xr, xc, xn, xt, xo⟩ := o
        obtain ⟨A', cap', hv⟩ := (hokf wr (fun _ => False) hF (fun _ h => h.elim)).cor.ints.sh
        have hv : xc = .slice A' xn.length cap' := hv
        subst hv
        obtain ⟨c0, c1, c2, c3, c4, c5, c6, c7, c8, c9, c10⟩ := ar11 (off := off + n * 11) hc
        have hfa : Fr (fun _ => False) wr (wr.alloc (.cells #[.int .i64 do_, .int .i64 pid, .int .i64 nn, .int .i64 xp, .int .i64 xj, .int .i64 xe, .int .i64 xs, .int .i64 xr, .slice A' xn.length cap', .int .i64 xt, .int .i64 xo] 63)) := (Fr.refl _ wr).alloc _
        have hfa' := hF.then (hfa.mono (fun _ _ h => h.elim))
        have C35 := Lib.hid (does35_any _ t k n _ K last (hD.spare hfa) (fun i hi => Or.inr hi) (by omega) ⟨do_, pid, nn, xp, xj, xe, xs, xr, .slice A' xn.length cap', xn, xt, xo⟩ (hokf _ _ hfa' (fun i hi => by rcases hi with hi | hi; exact hi.1.1; exact Nat.le_trans hfa'.size hi)) (by omega))
        have HBX := Lib.hid (Blk.new wr 63 #[.int .i64 do_, .int .i64 pid, .int .i64 nn, .int .i64 xp, .int .i64 xj, .int .i64 xe, .int .i64 xs, .int .i64 xr, .slice A' xn.length cap', .int .i64 xt, .int .i64 xo])
        have HT1 := Lib.hid (show ToldAt _ g 61 f from Blk.fr hT hfa (fun h => h))
        have HFA := Lib.hid hfa'
        have HI4 := Lib.hid hI4
        have HL4 := Lib.hid hl4
        obtain ⟨z0, z1, z2, z3, z4, z5, z6, z7, z8, z9, z10⟩ := bx11 HBX.out
        have hsw : w.heap.size ≤ wr.heap.size := hF.size
        clear hD hI hT hF hc hokf hI4 hl4 hfa hfa'
        simp only [OpP.val] at C35
        go_wp2_with fail
        refine C35.out.mono ?_
        rintro e w4 ⟨b4, rfl, hd4, hf4⟩
        clear z0 z1 z2 z3 z4 z5 z6 z7 z8 z9 z10 c0 c1 c2 c3 c4 c5 c6 c7 c8 c9 c10
        have hnb : ¬ ((w.heap.size ≤ wr.heap.size ∧ wr.heap.size ≠ g) ∧ wr.heap.size < wr.heap.size ∨ (wr.alloc (.cells #[.int .i64 do_, .int .i64 pid, .int .i64 nn, .int .i64 xp, .int .i64 xj, .int .i64 xe, .int .i64 xs, .int .i64 xr, .slice A' xn.length cap', .int .i64 xt, .int .i64 xo] 63)).heap.size ≤ wr.heap.size) := by
          rw [World.size_alloc]; omega
        obtain ⟨z0, z1, _⟩ := bx11 (HBX.out.fr hf4 hnb)
        have HT4 := Lib.hid (show ToldAt w4 g 61 f from Blk.fr HT1.out hf4 (fun h => by rw [World.size_alloc] at h; omega))
        have hd4' := hd4.mono (B' := fun i => w.heap.size ≤ i ∧ i ≠ g) (fun i hi => by
          rcases hi with hi | hi
          · exact hi.1
          · rw [World.size_alloc] at hi; exact ⟨by omega, by omega⟩)
        have HD4 := Lib.hid hd4'
        have HF4 := Lib.hid (HFA.out.then (hf4.mono (S' := fun i => w.heap.size ≤ i) (fun i _ hi => by
          rcases hi with hi | hi
          · exact hi.1.1
          · rw [World.size_alloc] at hi; omega)))
        have HL5 := Lib.hid (show doesL K last ⟨do_, pid, nn, xp, xj, xe, xs, xr, .slice A' xn.length cap', xn, xt, xo⟩ ≤ ((n + 1 : Nat) : Int) from by have := HL4.out.2; omega)
        have HRF := Lib.hid (fun i => show relF f ⟨do_, pid, nn, xp, xj, xe, xs, xr, .slice A' xn.length cap', xn, xt, xo⟩ i = (f i || (decide (do_ = 1 ∧ 0 ≤ pid ∧ pid ≤ 60) && (i == pid.toNat))) from rfl)
        generalize relF f ⟨do_, pid, nn, xp, xj, xe, xs, xr, .slice A' xn.length cap', xn, xt, xo⟩ = f5 at *
        generalize doesK K last ⟨do_, pid, nn, xp, xj, xe, xs, xr, .slice A' xn.length cap', xn, xt, xo⟩ = K5 at *
        generalize doesL K last ⟨do_, pid, nn, xp, xj, xe, xs, xr, .slice A' xn.length cap', xn, xt, xo⟩ = l5 at *
        have HI5 := HI4
        clear hd4 hd4' hf4 hnb HT1 C35 HBX HFA HL4 HI4
        by_cases hall : do_ = 1 ∧ 0 ≤ pid ∧ pid ≤ 60
        · obtain ⟨hd1, hp0, hp60⟩ := hall
          obtain ⟨pm, rfl⟩ : ∃ pm : Nat, pid = (pm : Int) := ⟨pid.toNat, by omega⟩
          have b1 : (do_ == 1) = true := by simpa using hd1
          have b2 : decide ((0 : Int) ≤ (pm : Int)) = true := decide_eq_true (by omega)
          have b3 : decide ((pm : Int) ≤ 60) = true := decide_eq_true hp60
          have hpm : pm ≤ 60 := by omega
          have ct := HT4.out.cell (i := pm) (by omega)
          have ft := Blk.frozen HT4.out pm
          have hT5 : ToldAt (w4.setCell ⟨g, pm, none⟩ (.bool true)) g 61 f5 := by
            have h5 : f5 = fun i => f i || (i == pm) := by
              funext i
              rw [HRF.out i, decide_eq_true ⟨hd1, hp0, hp60⟩, Int.toNat_natCast, Bool.true_and]
            rw [h5]
            exact HT4.out.set pm
          have hFs : Fr (fun i => i = g) w4 (w4.setCell ⟨g, pm, none⟩ (.bool true)) := (Fr.refl (fun i => i = g) w4).setCell (p := ⟨g, pm, none⟩) (Or.inl rfl) _
          have HT5 := Lib.hid hT5
          have HD5 := Lib.hid (HD4.out.frB hFs (fun i hi e => hi.2 e))
          have HF5 := Lib.hid (HF4.out.then (hFs.mono (S' := fun i => w.heap.size ≤ i) (fun i _ hi => by omega)))
          clear hT5 hFs HT4 HD4 HF4
          obtain ⟨w5, hw5⟩ : ∃ W, W = w4.setCell ⟨g, pm, none⟩ (.bool true) := ⟨_, rfl⟩
          rw [← hw5] at HT5 HD5 HF5
          have C36 := Lib.hid (show Calls Try.prog 36 #[.pointer (some ⟨t, 0, none⟩)] w5 (ListPost w5 K5) from by
            obtain ⟨X, _, h1, _⟩ := HD5.out
            exact list36_any w5 t K5 l5 X h1)
          go_wp2_with fail
          rw [← hw5]
          clear hw5 ct ft z0 z1
          refine (C36.out).mono ?_
          rintro e w6 ⟨v, T, rfl, hT6, hTK, hf6⟩
          have hrow := ownsRow_base_a' hT6.row (Nat.zero_le _)
          obtain ⟨A6, cap6, rfl⟩ := row_shape hrow
          have HTK := Lib.hid hTK
          have HROW := Lib.hid hrow
          have HDE := Lib.hid (HD5.out.fr0 hf6)
          have HTE := Lib.hid (show ToldAt w6 g 61 f5 from Blk.fr HT5.out hf6 (fun h => h))
          have HFE := Lib.hid (HF5.out.then (hf6.mono (fun _ _ h => h.elim)))
          have hgE : g < w6.heap.size := HTE.out.lt
          have hTle : T.length ≤ 256 := by
            have h1 := congrArg List.length hTK
            have h2 := HD5.out.ok.2.2.2
            simp only [List.length_map] at h1
            omega
          clear hT6 hTK hf6 hrow
          go_wp2_with fail
          go_loopw [9] (fun j wk => ∃ m : Nat, m ≤ T.length ∧ j = .int .i64 m ∧ w6 = wk) (fun j _ => T.length - (intOf j).toNat)
          case atStart => exact ⟨0, Nat.zero_le _, rfl, rfl⟩
          case round =>
            obtain ⟨m, hm, rfl, rfl⟩ := hrel
            by_cases hlm : m < T.length
            · obtain ⟨q, hq, hqx, _⟩ := list_mem HTK.out hlm
              obtain ⟨ga, ca, hv, hce⟩ := task_cell HROW.out hlm
              cases hv
              have z0 := hce 0 _ (by omega) rfl
              have z6 := hce 6 _ (by omega) rfl
              have z7 := hce 7 _ (by omega) rfl
              simp only [Nat.add_zero] at z0
              have hr := HD5.out.ok.2.1 q hq
              have hh := HI5.out q hq
              have e0 : q.1.pid = (T[m]'hlm).pid := by rw [hqx]; rfl
              have e6 : q.1.state = (T[m]'hlm).state := by rw [hqx]; rfl
              have e7 : q.1.code = (T[m]'hlm).code := by rw [hqx]; rfl
              rw [e0] at hr hh
              rw [e6, e7] at hh
              generalize (T[m]'hlm).pid = pd at *
              generalize (T[m]'hlm).state = st at *
              generalize (T[m]'hlm).code = cd at *
              obtain ⟨pn, rfl⟩ : ∃ pn : Nat, pd = (pn : Int) := ⟨pd.toNat, by omega⟩
              have hpn : pn ≤ 60 := by have := hr.2.1; have := HL5.out; omega
              have hpn1 : 1 ≤ pn := by have := hr.1; omega
              have ct := HTE.out.cell (i := pn) (by omega)
              have b1 : decide ((pn : Int) < 1) = false := decide_eq_false (by omega)
              have b2 : decide ((60 : Int) < (pn : Int)) = false := decide_eq_false (by omega)
              rw [Int.toNat_natCast] at hh
              generalize f5 pn = fb at *
              have HH := Lib.hid hh
              clear hce hr hh e0 e6 e7 hq hqx
              cases fb with
              | true =>
                go_wp2
                go_roundw
                case rel => exact ⟨m + 1, by omega, by go_num, trivial⟩
                case measure => simp [intOf]; omega
              | false =>
                obtain ⟨h1, h2⟩ := HH.out rfl
                have b3 : (st == 1) = false := by simpa using h1
                cases hs : (st == 2) with
                | false =>
                  go_wp2
                  go_roundw
                  case rel => exact ⟨m + 1, by omega, by go_num, trivial⟩
                  case measure => simp [intOf]; omega
                | true =>
                  have b4 : (cd != 137) = false := by
                    have := h2 (by simpa using hs)
                    simpa using this
                  go_wp2
                  go_roundw
                  case rel => exact ⟨m + 1, by omega, by go_num, trivial⟩
                  case measure => simp [intOf]; omega
            · obtain rfl : m = T.length := by omega
              go_wp2
              go_roundw
              case rel => exact ⟨n + 1, _, _, f5, by omega, by go_num, HDE.out, HI5.out, HL5.out, HTE.out, HFE.out, hgE, hg2⟩
              case measure => simp [intOf]; omega

        · have hneg : (do_ == 1) = false ∨ ((do_ == 1) = true ∧ decide ((0 : Int) ≤ pid) = false) ∨ ((do_ == 1) = true ∧ decide ((0 : Int) ≤ pid) = true ∧ decide (pid ≤ 60) = false) := by
            by_cases h1 : do_ = 1
            · by_cases h2 : 0 ≤ pid
              · exact Or.inr (Or.inr ⟨by simpa using h1, decide_eq_true h2, decide_eq_false (fun h3 => hall ⟨h1, h2, h3⟩)⟩)
              · exact Or.inr (Or.inl ⟨by simpa using h1, decide_eq_false h2⟩)
            · exact Or.inl (by simpa using h1)
          have HT5 := Lib.hid (show ToldAt w4 g 61 f5 from by
            have h5 : f5 = f := by
              funext i
              rw [HRF.out i, decide_eq_false hall, Bool.false_and, Bool.or_false]
            rw [h5]
            exact HT4.out)
          have HD5 := HD4
          have HF5 := HF4
          clear HT4 HD4 HF4 hall
          have C36 := Lib.hid (show Calls Try.prog 36 #[.pointer (some ⟨t, 0, none⟩)] w4 (ListPost w4 K5) from by
            obtain ⟨X, _, h1, _⟩ := HD5.out
            exact list36_any w4 t K5 l5 X h1)
          rcases hneg with b1 | ⟨b1, b2⟩ | ⟨b1, b2, b3⟩
          all_goals (
            go_wp2_with fail
            clear z0 z1
            refine (C36.out).mono ?_
            rintro e w6 ⟨v, T, rfl, hT6, hTK, hf6⟩
            have hrow := ownsRow_base_a' hT6.row (Nat.zero_le _)
            obtain ⟨A6, cap6, rfl⟩ := row_shape hrow
            have HTK := Lib.hid hTK
            have HROW := Lib.hid hrow
            have HDE := Lib.hid (HD5.out.fr0 hf6)
            have HTE := Lib.hid (show ToldAt w6 g 61 f5 from Blk.fr HT5.out hf6 (fun h => h))
            have HFE := Lib.hid (HF5.out.then (hf6.mono (fun _ _ h => h.elim)))
            have hgE : g < w6.heap.size := HTE.out.lt
            have hTle : T.length ≤ 256 := by
              have h1 := congrArg List.length hTK
              have h2 := HD5.out.ok.2.2.2
              simp only [List.length_map] at h1
              omega
            clear hT6 hTK hf6 hrow
            go_wp2_with fail
            go_loopw [9] (fun j wk => ∃ m : Nat, m ≤ T.length ∧ j = .int .i64 m ∧ w6 = wk) (fun j _ => T.length - (intOf j).toNat)
            case atStart => exact ⟨0, Nat.zero_le _, rfl, rfl⟩
            case round =>
              obtain ⟨m, hm, rfl, rfl⟩ := hrel
              by_cases hlm : m < T.length
              · obtain ⟨q, hq, hqx, _⟩ := list_mem HTK.out hlm
                obtain ⟨ga, ca, hv, hce⟩ := task_cell HROW.out hlm
                cases hv
                have z0 := hce 0 _ (by omega) rfl
                have z6 := hce 6 _ (by omega) rfl
                have z7 := hce 7 _ (by omega) rfl
                simp only [Nat.add_zero] at z0
                have hr := HD5.out.ok.2.1 q hq
                have hh := HI5.out q hq
                have e0 : q.1.pid = (T[m]'hlm).pid := by rw [hqx]; rfl
                have e6 : q.1.state = (T[m]'hlm).state := by rw [hqx]; rfl
                have e7 : q.1.code = (T[m]'hlm).code := by rw [hqx]; rfl
                rw [e0] at hr hh
                rw [e6, e7] at hh
                generalize (T[m]'hlm).pid = pd at *
                generalize (T[m]'hlm).state = st at *
                generalize (T[m]'hlm).code = cd at *
                obtain ⟨pn, rfl⟩ : ∃ pn : Nat, pd = (pn : Int) := ⟨pd.toNat, by omega⟩
                have hpn : pn ≤ 60 := by have := hr.2.1; have := HL5.out; omega
                have hpn1 : 1 ≤ pn := by have := hr.1; omega
                have ct := HTE.out.cell (i := pn) (by omega)
                have b1 : decide ((pn : Int) < 1) = false := decide_eq_false (by omega)
                have b2 : decide ((60 : Int) < (pn : Int)) = false := decide_eq_false (by omega)
                rw [Int.toNat_natCast] at hh
                generalize f5 pn = fb at *
                have HH := Lib.hid hh
                clear hce hr hh e0 e6 e7 hq hqx
                cases fb with
                | true =>
                  go_wp2
                  go_roundw
                  case rel => exact ⟨m + 1, by omega, by go_num, trivial⟩
                  case measure => simp [intOf]; omega
                | false =>
                  obtain ⟨h1, h2⟩ := HH.out rfl
                  have b3 : (st == 1) = false := by simpa using h1
                  cases hs : (st == 2) with
                  | false =>
                    go_wp2
                    go_roundw
                    case rel => exact ⟨m + 1, by omega, by go_num, trivial⟩
                    case measure => simp [intOf]; omega
                  | true =>
                    have b4 : (cd != 137) = false := by
                      have := h2 (by simpa using hs)
                      simpa using this
                    go_wp2
                    go_roundw
                    case rel => exact ⟨m + 1, by omega, by go_num, trivial⟩
                    case measure => simp [intOf]; omega
              · obtain rfl : m = T.length := by omega
                go_wp2
                go_roundw
                case rel => exact ⟨n + 1, _, _, f5, by omega, by go_num, HDE.out, HI5.out, HL5.out, HTE.out, HFE.out, hgE, hg2⟩
                case measure => simp [intOf]; omega
)
      · obtain rfl : n = L.length := by omega
        have HF := Lib.hid hF
        clear hD hI hT hF
        go_wp2_with fail
        refine (live33_any _).mono ?_
        rintro e wL ⟨rfl, hfL⟩
        go_wp2
        go_ret
        exact ⟨rfl, HF.out.then (hfL.mono (fun _ _ h => h.elim))⟩

end Go.Proofs.Ytomoomopodihhaa
