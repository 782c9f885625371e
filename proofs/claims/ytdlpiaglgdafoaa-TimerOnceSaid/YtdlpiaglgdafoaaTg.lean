/-
  container/heap: Fix, Push, Pop, Remove, at the deadlines.
-/
import Derived.Test.YtdlpiaglgdafoaaTf
namespace Go.Proofs.Ytdlpiaglgdafoaa
open Go.RowKit Go.Maps

theorem HeapN.fix' {L : List EntD} {n i : Nat} (h : HeapN L n) {L' : List EntD} (hs : ∀ k, k < n → k ≠ i → ky L' k = ky L k) : DInv L' n i i := by
  refine DInv.start (fun k hk hkn hne hp => ?_) (fun c hc hcn hp hi => ?_)
  · rw [hs _ (by omega) hp, hs _ hkn hne]; exact h k hk hkn
  · rw [hs _ (by omega) (by omega), hs _ hcn (by omega)]
    have h1 := h i hi (by omega)
    have h2 := h c hc hcn
    rw [hp] at h2
    exact h1.trans h2
theorem HeapN.take {L : List EntD} {n : Nat} (h : HeapN L n) : HeapN (L.take n) n := fun k hk hkn => by
  have e : ∀ k, k < n → ky (L.take n) k = ky L k := fun k hk => by
    unfold ky
    rw [List.getD_eq_getElem?_getD, List.getD_eq_getElem?_getD, List.getElem?_take, if_pos hk]
  rw [e _ (by omega), e _ hkn]
  exact h k hk hkn
theorem ky_append {L : List EntD} {x : EntD} {k : Nat} (hk : k < L.length) : ky (L ++ [x]) k = ky L k := by
  unfold ky
  rw [List.getD_eq_getElem?_getD, List.getD_eq_getElem?_getD, List.getElem?_append_left hk]

def HeapPost (base q : Nat) (mv : Value) (L : List EntD) (v : Value) (w : World) (e : Ending) (w' : World) : Prop :=
  ∃ L', e = .returned (.tuple #[]) ∧ HAt w' base q mv L' v ∧ L'.Perm L ∧ HeapN L' L'.length ∧ Fr (HS v L) w w'

set_option maxHeartbeats 1000000 in
theorem fix21_any (w : World) (base q : Nat) (mv : Value) (L : List EntD) (v : Value) (h : HAt w base q mv L v) (i : Nat) (hi : i < L.length) (hD : DInv L L.length i i) (hl : L.length ≤ 100000) :
    Calls Try.prog 21 #[.iface 58 (.pointer (some ⟨q, 0, none⟩)), .int .i64 i] w (HeapPost base q mv L v w) := by
  have HD := Lib.hid (down28_any w base q mv L v h L.length i (Nat.le_refl _) (by omega) hD hl)
  have hc := h.blk.cell 0
  have mln := m_len hc
  have HH := Lib.hid h
  obtain ⟨A, cap, rfl⟩ := h.shape
  have HLN := Lib.hid (fun W => len48_any A L.length cap W)
  clear h hD
  go_enter Try.func21, Try.ntmps21
  go_wp2_with fail
  refine (HLN.out _).mono ?_
  rintro e w1 ⟨rfl, rfl⟩
  go_wp2_with fail
  refine HD.out.mono ?_
  rintro e w2 ⟨L', b, rfl, hat, hp, ht, hc2, hf⟩
  have hle := hp.length_eq
  rcases hc2 with ⟨rfl, hh⟩ | ⟨rfl, rfl, hU⟩
  · have HF := Lib.hid (show HeapPost base q mv L (.slice A L.length cap) w (.returned (.tuple #[])) w2 from ⟨L', rfl, hat, hp, by rw [hle]; exact hh, hf⟩)
    clear hat hp ht hh hf hc mln
    go_wp2_with fail
    go_end0
    exact HF.out
  · have HU := Lib.hid (up29_any w2 base q mv _ _ hat L'.length i (Nat.le_refl _) hi hU hl)
    have HF := Lib.hid hf
    clear hat hp ht hU hf hc mln
    go_wp2_with fail
    refine HU.out.mono ?_
    rintro e w3 ⟨L3, rfl, hat3, hp3, _, hh3, hf3⟩
    have HX := Lib.hid (show HeapPost base q mv L' (.slice A L'.length cap) w (.returned (.tuple #[])) w3 from ⟨L3, rfl, hat3, hp3, by rw [hp3.length_eq]; exact hh3, HF.out.then hf3⟩)
    clear hat3 hp3 hh3 hf3
    go_wp2_with fail
    go_end0
    exact HX.out

def PushPost (base q b : Nat) (mv : Value) (L : List EntD) (v : Value) (x : EntD) (w : World) (e : Ending) (w' : World) : Prop :=
  ∃ L' v', e = .returned (.tuple #[]) ∧ HAt w' base q mv L' v' ∧ L'.Perm (L ++ [x]) ∧ HeapN L' L'.length ∧ Fr (fun i => i = q ∨ i = b ∨ HS v L i) w w' ∧ (∀ i, v'.ownBlock = some i → v.ownBlock = some i ∨ w.heap.size ≤ i)

set_option maxHeartbeats 1000000 in
theorem push22_any (w : World) (base q : Nat) (mv : Value) (L : List EntD) (v : Value) (h : HAt w base q mv L v) (hh : HeapN L L.length) (hl : L.length < 90000) (b : Nat) (at_ id p : Int) (hb : Blk w b 56 #[.int .i64 at_, .int .i64 id, .int .i64 p]) (hbb : base ≤ b) (hne : ∀ e ∈ L, e.1 ≠ b) (hbs : base ≤ w.heap.size) :
    Calls Try.prog 22 #[.iface 58 (.pointer (some ⟨q, 0, none⟩)), .iface 53 (.pointer (some ⟨b, 0, none⟩))] w (PushPost base q b mv L v (b, (at_, id)) w) := by
  have HP := Lib.hid (push52_any w base q mv L v h (by omega) b at_ id p hb hbb hne hbs)
  have hmp := m_push w ⟨q, 0, none⟩
  have hblt := hb.lt
  have hLv := Lib.hid (fun g (hg : v.ownBlock = some g) => (h.row.lt g hg).2)
  have hU : ∀ L2 : List EntD, L2 = L ++ [(b, (at_, id))] → UInv L2 (L.length + 1) L.length := fun L2 e => by subst e; exact hh.push (fun k hk => ky_append hk)
  have HU0 := Lib.hid hU
  clear h hb hne hh hU
  go_enter Try.func22, Try.ntmps22
  go_wp2_with fail
  refine HP.out.mono ?_
  rintro e w1 ⟨v', rfl, hat, hf, hnew⟩
  have hlen : (L ++ [(b, (at_, id))]).length = L.length + 1 := by simp
  have hc := hat.blk.cell 0
  have mln := m_len hc
  have HU := Lib.hid (up29_any w1 base q mv _ _ hat (L.length + 1) L.length (by omega) (by omega) (HU0.out _ rfl) (by omega))
  obtain ⟨A, cap, rfl⟩ := hat.shape
  rw [hlen] at hc mln
  have HLN := Lib.hid (fun W => len48_any A (L.length + 1) cap W)
  have HF := Lib.hid hf
  have HNW := Lib.hid hnew
  clear hat hf hnew
  go_wp2_with fail
  refine (HLN.out _).mono ?_
  rintro e w2 ⟨rfl, rfl⟩
  go_wp2_with fail
  refine HU.out.mono ?_
  rintro e w3 ⟨L3, rfl, hat3, hp3, _, hh3, hf3⟩
  have HX := Lib.hid (show PushPost base q b mv L v (b, (at_, id)) w (.returned (.tuple #[])) w3 from ⟨L3, _, rfl, hat3, hp3, by rw [hp3.length_eq, hlen]; exact hh3, HF.out.trans hf3 (fun i hi h => by
    rcases h with h | ⟨x, hx, h⟩
    · rcases HNW.out i h with h | h
      · exact Or.inr (Or.inr (Or.inl h))
      · omega
    · rcases List.mem_append.1 hx with hx | hx
      · exact Or.inr (Or.inr (Or.inr ⟨x, hx, h⟩))
      · rw [List.mem_singleton] at hx; subst hx; exact Or.inr (Or.inl h.symm)), HNW.out⟩)
  clear hat3 hp3 hh3 hf3 hc mln
  go_wp2_with fail
  go_end0
  exact HX.out

/-- What 'Pop' and 'Remove' leave: entry x is told, and gone. -/
def GonePost (base q : Nat) (mv : Value) (L : List EntD) (v : Value) (x : EntD) (w : World) (e : Ending) (w' : World) : Prop :=
  ∃ L' v', e = .returned (.iface 53 (.pointer (some ⟨x.1, 0, none⟩))) ∧ HAt w' base q mv L' v' ∧ (L' ++ [x]).Perm L ∧ HeapN L' L'.length ∧ Fr (fun i => i = q ∨ HS v L i) w w' ∧ v'.ownBlock = v.ownBlock ∧ ∃ p, Blk w' x.1 56 #[.int .i64 x.2.1, .int .i64 x.2.2, .int .i64 p]

/-- .. ahead of the last step, where x is the last. -/
theorem gone_last {base q : Nat} {mv : Value} {L L2 : List EntD} {v v' vv : Value} {x : EntD} {n : Nat} {w w2 w3 : World} (hat2 : HAt w2 base q mv L2 vv) (hn : L2.length = n + 1) (hx0 : L2[n]? = some x) (hh : HeapN L2 n) (hp : L2.Perm L) (hf : Fr (HS v L) w w2)
    (ha : HAt w3 base q mv (L2.take n) v') (hv : v'.ownBlock = v.ownBlock) (hf3 : Fr (fun i => i = q) w2 w3) : GonePost base q mv L v x w (.returned (.iface 53 (.pointer (some ⟨(L2[n]'(by omega)).1, 0, none⟩)))) w3 := by
  have hl : (L2.take n).length = n := by rw [List.length_take]; omega
  have hx : L2[n]'(by omega) = x := by rw [List.getElem?_eq_getElem (by omega)] at hx0; exact Option.some.inj hx0
  refine ⟨L2.take n, v', by rw [hx], ha, ?_, by rw [hl]; exact hh.take, (hf.mono (fun _ _ h => Or.inr h)).trans hf3 (fun _ _ h => Or.inl h), hv, (n : Nat), by
    have hb := (hat2.ent n (by omega)).fr hf3 (fun e => hat2.q_ne n (by omega) e.symm)
    rw [hx] at hb
    exact hb⟩
  have e : L2.take n ++ [x] = L2 := by
    rw [← hx, ← List.take_succ_eq_append_getElem (by omega), ← hn, List.take_length]
  rw [e]
  exact hp

set_option maxRecDepth 20000 in
set_option maxHeartbeats 2000000 in
theorem pop23_any (w : World) (base q : Nat) (mv : Value) (L : List EntD) (v : Value) (h : HAt w base q mv L v) (n : Nat) (hn : L.length = n + 1) (hh : HeapN L L.length) (hl : L.length ≤ 90000) (x : EntD) (hx0 : L[0]? = some x) :
    Calls Try.prog 23 #[.iface 58 (.pointer (some ⟨q, 0, none⟩))] w (GonePost base q mv L v x w) := by
  have hc := h.blk.cell 0
  have mln := m_len hc
  have msw := m_swap hc
  have HSW := Lib.hid (swap50_any w base q mv L v h 0 n (by omega) (by omega) (by omega))
  have hsl := swapL_len L 0 n
  have hD : DInv (swapL L 0 n) n 0 0 := by
    rw [hn] at hh
    exact (hh.less (Nat.le_succ n)).fix' (fun k hk hk0 => by rw [ky_swap L (by omega) (by omega), if_neg (by omega), if_neg hk0])
  have hx : (swapL L 0 n)[n]? = some x := by
    have h3 := swapL_elem (L := L) (i := 0) (j := n) (by omega) (by omega) (k := n) (by omega)
    rw [if_pos rfl] at h3
    rw [List.getElem?_eq_getElem (by omega), h3]
    rw [List.getElem?_eq_getElem (by omega)] at hx0
    exact hx0
  have hsp := swapL_perm L (i := 0) (j := n) (by omega) (by omega)
  obtain ⟨A, cap, rfl⟩ := h.shape
  have HD := Lib.hid hD
  have HXX := Lib.hid hx
  have HSP := Lib.hid hsp
  have HSL := Lib.hid hsl
  have HN := Lib.hid hn
  have HLN := Lib.hid (fun W => len48_any A (n + 1) cap W)
  rw [hn] at hc mln msw
  generalize swapL L 0 n = L1 at *
  have HDW := Lib.hid (fun W (hW : HAt W base q mv L1 (.slice A L.length cap)) => down28_any W base q mv L1 _ hW n 0 (by rw [HSL.out, HN.out]; omega) (by omega) HD.out (by rw [HSL.out]; omega))
  have HPP := Lib.hid (fun W (L2 : List EntD) (hW : HAt W base q mv L2 (.slice A L.length cap)) h2 => pop51_any W base q mv L2 _ n hW h2 (by rw [h2, ← HN.out]; omega))
  have HRES := Lib.hid (fun (L2 : List EntD) v' w2 w3 (hA : HAt w2 base q mv L2 (.slice A L.length cap)) (h2 : L2.length = n + 1) (e : L2[n]? = L1[n]?) hh hp hf ha hv hf3 => gone_last (base := base) (q := q) (mv := mv) (L := L) (L2 := L2) (v := .slice A L.length cap) (v' := v') (x := x) (n := n) (w := w) (w2 := w2) (w3 := w3) hA h2 (e.trans HXX.out) hh hp hf ha hv hf3)
  have n0 : (0 : Int) ≤ (n : Int) := by omega
  have n1 : (n : Int) ≤ 90000 := by omega
  rw [HN.out] at HSW HDW HPP HRES
  rw [HN.out]
  clear h hh hD hx hsp hsl hn
  go_enter Try.func23, Try.ntmps23
  go_wp2_with fail
  refine (HLN.out _).mono ?_
  rintro e w0 ⟨rfl, rfl⟩
  go_wp2_with fail
  refine HSW.out.mono ?_
  rintro e w1 ⟨rfl, hat1, hf1⟩
  have HF1 := Lib.hid hf1
  have HA1 := Lib.hid hat1
  clear hat1 hf1 mln msw hc
  go_wp2_with fail
  refine (HDW.out _ HA1.out).mono ?_
  rintro e w2 ⟨L2, b2, rfl, hat2, hp2, ht2, hc2, hf2⟩
  have hh2 : HeapN L2 n := by
    rcases hc2 with ⟨_, h3⟩ | ⟨_, rfl, h3⟩
    · exact h3
    · exact h3.done (Or.inl rfl)
  have hl2 : L2.length = n + 1 := by rw [hp2.length_eq, HSL.out, HN.out]
  have HP3 := Lib.hid (HPP.out w2 L2 hat2 hl2)
  have HR3 := Lib.hid (fun v' w3 ha hv hf3 => HRES.out L2 v' w2 w3 hat2 hl2 (ht2 n (Nat.le_refl _)) hh2 (hp2.trans HSP.out) (HF1.out.trans hf2 (fun i _ hi => hi.perm HSP.out)) ha hv hf3)
  have mpp := m_pop w2 ⟨q, 0, none⟩
  generalize L2[n] = ex at HP3 HR3
  clear hat2 hp2 ht2 hc2 hf2 hh2 hl2
  go_wp2_with fail
  refine HP3.out.mono ?_
  rintro e w3 ⟨v', rfl, ha3, hv3, hf3⟩
  have HX := Lib.hid (HR3.out v' w3 ha3 hv3 hf3)
  clear ha3 hv3 hf3
  go_wp2_with fail
  go_ret
  exact HX.out

set_option maxRecDepth 20000 in
set_option maxHeartbeats 2000000 in
theorem remove24_any (w : World) (base q : Nat) (mv : Value) (L : List EntD) (v : Value) (h : HAt w base q mv L v) (n : Nat) (hn : L.length = n + 1) (hh : HeapN L L.length) (hl : L.length ≤ 90000) (i : Nat) (hi : i < L.length) (x : EntD) (hx0 : L[i]? = some x) :
    Calls Try.prog 24 #[.iface 58 (.pointer (some ⟨q, 0, none⟩)), .int .i64 i] w (GonePost base q mv L v x w) := by
  have hc := h.blk.cell 0
  have mln := m_len hc
  by_cases hni : i = n
  · have HP3 := Lib.hid (pop51_any w base q mv L v n h hn (by omega))
    have HR3 := Lib.hid (fun v' w3 ha hv hf3 => gone_last (base := base) (q := q) (mv := mv) (L := L) (L2 := L) (v := v) (v' := v') (x := x) (n := n) (w := w) (w2 := w) (w3 := w3) h hn (hni ▸ hx0) (hh.less (by omega)) (List.Perm.refl L) (Fr.refl _ w) ha hv hf3)
    have mpp := m_pop w ⟨q, 0, none⟩
    obtain ⟨A, cap, rfl⟩ := h.shape
    generalize L[n] = ex at HP3 HR3
    rw [hn] at hc mln HP3 HR3 ⊢
    have HLN := Lib.hid (fun W => len48_any A (n + 1) cap W)
    subst hni
    have b1 : ((i : Int) != (i : Int)) = false := by simp
    have i1 : (i : Int) ≤ 90000 := by omega
    clear h hh hn hi hx0
    go_enter Try.func24, Try.ntmps24
    go_wp2_with fail
    refine (HLN.out _).mono ?_
    rintro e w0 ⟨rfl, rfl⟩
    go_wp2_with fail
    refine HP3.out.mono ?_
    rintro e w3 ⟨v', rfl, ha3, hv3, hf3⟩
    have HX := Lib.hid (HR3.out v' w3 ha3 hv3 hf3)
    clear ha3 hv3 hf3
    go_wp2_with fail
    go_ret
    exact HX.out
  · have msw := m_swap hc
    have HSW := Lib.hid (swap50_any w base q mv L v h i n hi (by omega) (by omega))
    have hsl := swapL_len L i n
    have hD : DInv (swapL L i n) n i i := by
      rw [hn] at hh
      exact (hh.less (Nat.le_succ n)).fix' (fun k hk hk0 => by rw [ky_swap L hi (by omega), if_neg (by omega), if_neg hk0])
    have hx : (swapL L i n)[n]? = some x := by
      have h3 := swapL_elem (L := L) (i := i) (j := n) hi (by omega) (k := n) (by omega)
      rw [if_pos rfl] at h3
      rw [List.getElem?_eq_getElem (by omega), h3]
      rw [List.getElem?_eq_getElem hi] at hx0
      exact hx0
    have hsp := swapL_perm L (i := i) (j := n) hi (by omega)
    obtain ⟨A, cap, rfl⟩ := h.shape
    have HD := Lib.hid hD
    have HXX := Lib.hid hx
    have HSP := Lib.hid hsp
    have HSL := Lib.hid hsl
    have HN := Lib.hid hn
    have HLN := Lib.hid (fun W => len48_any A (n + 1) cap W)
    rw [hn] at hc mln msw
    generalize swapL L i n = L1 at *
    have HDW := Lib.hid (fun W (hW : HAt W base q mv L1 (.slice A L.length cap)) => down28_any W base q mv L1 _ hW n i (by rw [HSL.out, HN.out]; omega) (by omega) HD.out (by rw [HSL.out]; omega))
    have HPP := Lib.hid (fun W (L2 : List EntD) (hW : HAt W base q mv L2 (.slice A L.length cap)) h2 => pop51_any W base q mv L2 _ n hW h2 (by rw [h2, ← HN.out]; omega))
    have HUP := Lib.hid (fun W (hW : HAt W base q mv L1 (.slice A L.length cap)) hU => up29_any W base q mv L1 _ hW n i (by rw [HSL.out, HN.out]; omega) (by omega) hU (by rw [HSL.out]; omega))
    have HRES := Lib.hid (fun (L2 : List EntD) v' w2 w3 (hA : HAt w2 base q mv L2 (.slice A L.length cap)) (h2 : L2.length = n + 1) (e : L2[n]? = L1[n]?) hh hp hf ha hv hf3 => gone_last (base := base) (q := q) (mv := mv) (L := L) (L2 := L2) (v := .slice A L.length cap) (v' := v') (x := x) (n := n) (w := w) (w2 := w2) (w3 := w3) hA h2 (e.trans HXX.out) hh hp hf ha hv hf3)
    have n0 : (0 : Int) ≤ (n : Int) := by omega
    have n1 : (n : Int) ≤ 90000 := by omega
    have b1 : ((n : Int) != (i : Int)) = true := by simp; omega
    rw [HN.out] at HSW HDW HPP HRES HUP
    rw [HN.out]
    clear h hh hD hx hsp hsl hn hx0
    go_enter Try.func24, Try.ntmps24
    go_wp2_with fail
    refine (HLN.out _).mono ?_
    rintro e w0 ⟨rfl, rfl⟩
    go_wp2_with fail
    refine HSW.out.mono ?_
    rintro e w1 ⟨rfl, hat1, hf1⟩
    have HF1 := Lib.hid hf1
    have HA1 := Lib.hid hat1
    clear hat1 hf1 mln msw hc
    go_wp2_with fail
    refine (HDW.out _ HA1.out).mono ?_
    rintro e w2 ⟨L2, b2, rfl, hat2, hp2, ht2, hc2, hf2⟩
    rcases hc2 with ⟨rfl, hh2⟩ | ⟨rfl, rfl, hU⟩
    · have hl2 : L2.length = n + 1 := by rw [hp2.length_eq, HSL.out, HN.out]
      have HP3 := Lib.hid (HPP.out w2 L2 hat2 hl2)
      have HR3 := Lib.hid (fun v' w3 ha hv hf3 => HRES.out L2 v' w2 w3 hat2 hl2 (ht2 n (Nat.le_refl _)) hh2 (hp2.trans HSP.out) (HF1.out.trans hf2 (fun i _ hi => hi.perm HSP.out)) ha hv hf3)
      have mpp := m_pop w2 ⟨q, 0, none⟩
      generalize L2[n] = ex at HP3 HR3
      clear hat2 hp2 ht2 hf2 hh2 hl2
      go_wp2_with fail
      refine HP3.out.mono ?_
      rintro e w3 ⟨v', rfl, ha3, hv3, hf3⟩
      have HX := Lib.hid (HR3.out v' w3 ha3 hv3 hf3)
      clear ha3 hv3 hf3
      go_wp2_with fail
      go_ret
      exact HX.out
    · have HUU := Lib.hid (HUP.out w2 hat2 hU)
      have HF2 := Lib.hid (HF1.out.trans hf2 (fun i _ hi => hi.perm HSP.out))
      clear hat2 hp2 ht2 hf2 hU
      go_wp2_with fail
      refine HUU.out.mono ?_
      rintro e w4 ⟨L4, rfl, hat4, hp4, ht4, hh4, hf4⟩
      have hl4 : L4.length = n + 1 := by rw [hp4.length_eq, HSL.out, HN.out]
      have HP3 := Lib.hid (HPP.out w4 L4 hat4 hl4)
      have HR3 := Lib.hid (fun v' w3 ha hv hf3 => HRES.out L4 v' w4 w3 hat4 hl4 (ht4 n (Nat.le_refl _)) hh4 (hp4.trans HSP.out) (HF2.out.trans hf4 (fun i _ hi => hi.perm HSP.out)) ha hv hf3)
      have mpp := m_pop w4 ⟨q, 0, none⟩
      generalize L4[n] = ex at HP3 HR3
      clear hat4 hp4 ht4 hf4 hh4 hl4
      go_wp2_with fail
      refine HP3.out.mono ?_
      rintro e w3 ⟨v', rfl, ha3, hv3, hf3⟩
      have HX := Lib.hid (HR3.out v' w3 ha3 hv3 hf3)
      clear ha3 hv3 hf3
      go_wp2_with fail
      go_ret
      exact HX.out

end Go.Proofs.Ytdlpiaglgdafoaa
