/-
  TimerOnce, walked.
-/
import Derived.Test.YtdlpiaglgdafoaaTz
namespace Go.Proofs.Ytdlpiaglgdafoaa
open Go.RowKit Go.Maps

theorem info4 : (Try.prog.info? 4).map (fun i => (i.zero, i.size, i.bytes)) = some (some (.bool false), 1, 1) := by kernel_rfl

theorem markE_zero (f : Nat → Bool) (E : List KeyD) : markE f E 0 = f := by
  funext i
  unfold markE
  simp

/-- The state between two times. -/
def OnceRel (ns : List Int) (m : Nat) (S0 : List KeyD) (q T : Nat) (w : World) (vl vi : Value) (wr : World) : Prop :=
  ∃ (i : Nat) (last : Int) (S : List KeyD) (f : Nat → Bool) (X : Nat → Prop), i ≤ m ∧ vi = .int .i64 i ∧ vl = .int .i64 last ∧ OnceInv ns S0 last S f ∧ TQ wr q S X ∧ (∀ i, X i → w.heap.size ≤ i) ∧ ¬ X T ∧ ToldAt wr T ns.length f ∧ Fr (fun i => w.heap.size ≤ i) w wr

set_option maxRecDepth 40000 in
set_option maxHeartbeats 3000000 in
theorem timerOnce3_any (w : World) (v v2 : Value) (ns ts : List Int) (h : NumsA w v ns) (h2 : NumsA w v2 ts) :
    Calls Try.prog 3 #[v, v2] w fun e w' => e = .returned (.bool true) ∧ Fr (fun i => w.heap.size ≤ i) w w' := by
  obtain ⟨i0, gi, gz0, gz1, gz2⟩ := info_parts info4
  obtain ⟨A, cap, rfl⟩ := h.shape
  obtain ⟨A2, cap2, rfl⟩ := h2.shape
  have hl := h.le
  have hl2 := h2.le
  unfold maxLen at hl hl2
  have HI := Lib.hid (fun W (hf : Fr (fun i => w.heap.size ≤ i) w W) => h.fr (Nat.le_refl _) hf)
  have HJ := Lib.hid (fun W (hf : Fr (fun i => w.heap.size ≤ i) w W) => h2.fr (Nat.le_refl _) hf)
  clear h h2
  by_cases h60 : 100 < ns.length
  · have b1 : decide ((100 : Int) < (ns.length : Int)) = true := decide_eq_true (by omega)
    go_enter Try.func3, Try.ntmps3
    go_wp2_with fail
    refine (live8_any _).mono ?_
    rintro e wL ⟨rfl, hfL⟩
    go_wp2_with fail
    go_ret
    exact ⟨rfl, hfL.mono (fun _ _ h => h.elim)⟩
  have b1 : decide ((100 : Int) < (ns.length : Int)) = false := decide_eq_false (by omega)
  by_cases h61 : 100 < ts.length
  · have b2 : decide ((100 : Int) < (ts.length : Int)) = true := decide_eq_true (by omega)
    go_enter Try.func3, Try.ntmps3
    go_wp2_with fail
    refine (live8_any _).mono ?_
    rintro e wL ⟨rfl, hfL⟩
    go_wp2_with fail
    go_ret
    exact ⟨rfl, hfL.mono (fun _ _ h => h.elim)⟩
  have b2 : decide ((100 : Int) < (ts.length : Int)) = false := decide_eq_false (by omega)
  have HN := Lib.hid (new_ts w)
  go_enter Try.func3, Try.ntmps3
  go_wp2_with fail
  refine HN.out.mono ?_
  rintro e w1 ⟨q, rfl, ht1, hf1⟩
  have HR := Lib.hid (show SetRel ns q w (.int .i64 (0 : Nat)) w1 from ⟨0, [], Nat.zero_le _, rfl, AllOf.nil, ht1, hf1.mono (fun _ _ h => h.elim)⟩)
  clear ht1 hf1
  go_wp2_with fail
  go_loopw [6] (fun i wr => SetRel ns q w i wr) (fun i _ => ns.length - (intOf i).toNat)
  case atStart => exact HR.out
  case round =>
    obtain ⟨j, S, hj, rfl, hA, hT, hf⟩ := hrel
    by_cases hlt : j < ns.length
    · obtain ⟨b, off, rfl, c0⟩ := (HI.out _ hf).el hlt
      have HAS := Lib.hid (fun h0 => hA.set hlt h0)
      have C10 := Lib.hid (set_ts hT (j : Nat) (ns[j]'hlt) (nat_wf (by omega)) _ rfl rfl)
      have HF := Lib.hid hf
      clear hA hT hf
      generalize ns[j] = x at *
      by_cases h0 : setN S (j : Nat) x = 0
      · rw [h0] at C10
        have HA1 := Lib.hid (HAS.out h0)
        clear h0
        go_wp2_with fail
        refine C10.out.mono ?_
        rintro e w2 ⟨rfl, ht2, hf2⟩
        have HT2 := Lib.hid ht2
        have HF2 := Lib.hid (HF.out.then hf2)
        clear ht2 hf2 c0
        go_wp2
        go_roundw
        case rel => exact ⟨j + 1, _, by omega, by go_num, HA1.out, HT2.out, HF2.out⟩
        case measure => simp [intOf]; omega
      · have h0' : (setN S (j : Nat) x != 0) = true := by simpa using h0
        generalize setN S (j : Nat) x = r at *
        generalize setK S (j : Nat) x = S1 at *
        go_wp2_with fail
        refine C10.out.mono ?_
        rintro e w2 ⟨rfl, ht2, hf2⟩
        have HF2 := Lib.hid (HF.out.then hf2)
        clear ht2 hf2 c0
        go_wp2_with fail
        refine (live8_any _).mono ?_
        rintro e wL ⟨rfl, hfL⟩
        go_wp2_with fail
        go_ret
        exact ⟨rfl, HF2.out.then (hfL.mono (fun _ _ h => h.elim))⟩
    · obtain rfl : j = ns.length := by omega
      have HF := Lib.hid hf
      obtain ⟨X0, hq0, hX0, hB0⟩ := hT
      have HINV := Lib.hid (OnceInv.start hA)
      have hXlt := Lib.hid (fun i (hi : X0 i) => hq0.lt hi)
      have HQ0 := Lib.hid hq0
      have HX0 := Lib.hid hX0
      clear hA hf hq0 hX0
      go_wp2_with (at_make; refine wpList_make_full _ rfl _ _ 28 rfl 0 4 i0 (.bool false) 1 Try.underlying28 gi gz0 gz1 .i64 .i64 _ _ ns.length rfl rfl rfl rfl (by rw [gz2]; omega) (by unfold maxLen; omega) (Nat.zero_le _) ?_; intro w2 hown2 hgrow2)
      have hFg : Fr (fun _ => False) wr w2 := Fr.of_grown hgrow2 (fun k hk => by cases hk)
      have HO := Lib.hid (show OnceRel ns ts.length S q wr.heap.size w (.int .i64 (-1)) (.int .i64 (0 : Nat)) w2 from ⟨0, -1, S, fun _ => false, X0, Nat.zero_le _, rfl, rfl, HINV.out, HQ0.out.fr0 hFg, HX0.out, fun h => by have := hXlt.out _ h; omega, told_made hown2, HF.out.then (hFg.mono (fun _ _ h => h.elim))⟩)
      have hTB : w.heap.size ≤ wr.heap.size := HF.out.size
      clear hown2 hgrow2 hFg hXlt
      generalize wr.heap.size = T at *
      go_loopw [8, 9] (fun vl vi wr => OnceRel ns ts.length S q T w vl vi wr) (fun _ vi _ => ts.length - (intOf vi).toNat)
      case atStart => exact HO.out
      case round =>
        obtain ⟨it, last, S1, f, X, hit, rfl, rfl, hI, hQ, hX, hXT, hTo, hf⟩ := hrel
        by_cases hlt : it < ts.length
        · obtain ⟨b2, o2, rfl, ct⟩ := (HJ.out _ hf).el hlt
          have HCT := Lib.hid (fun W (hW : Fr (fun i => w.heap.size ≤ i) w W) => show W.cell? ⟨b2, o2 + it, none⟩ = some (.int .i64 (ts[it]'hlt)) by
            obtain ⟨b2', o2', hh, c⟩ := (HJ.out _ hW).el hlt
            cases hh
            exact c)
          generalize ts[it] = t at *
          have HF := Lib.hid hf
          by_cases hback : t < last
          · clear hI hQ hX hXT hTo hf
            go_wp2_with fail
            refine (live8_any _).mono ?_
            rintro e wL ⟨rfl, hfL⟩
            go_wp2_with fail
            go_ret
            exact ⟨rfl, HF.out.then (hfL.mono (fun _ _ h => h.elim))⟩
          · have hle : last ≤ t := by omega
            have hE := hI.due t
            have HNX := Lib.hid (hI.next hle)
            have C11 := Lib.hid (due11_any wr q S1 X hQ t)
            have hTlt := Blk.lt hTo
            have HTO := Lib.hid hTo
            have HX := Lib.hid hX
            have HXT := Lib.hid hXT
            have HTOLD := Lib.hid hI.told
            clear hI hQ hX hXT hTo hf
            go_wp2_with fail
            refine C11.out.mono ?_
            rintro e w5 ⟨v5, X5, rfl, hrow, hq5, hx5, hf5⟩
            have hi5 : IntsV w5 v5 ((S1.filter fun p => decide (p.1 ≤ t)).map (·.2)) := IntsV.of_row hrow
            have hrl : ∀ g, v5.ownBlock = some g → g ≠ T := fun g hg => by have := (hrow.lt g hg).1; omega
            generalize (S1.filter fun p => decide (p.1 ≤ t)) = E at *
            obtain ⟨A5, cap5, hv5⟩ := hi5.sh
            rw [List.length_map] at hv5
            subst hv5
            have HL : Hid (∀ wk, Fr (fun i => i = T) w5 wk → ∀ k (hk : k < E.length), ∃ b o, A5 = some ⟨b, o, none⟩ ∧ wk.cell? ⟨b, o + k, none⟩ = some (.int .i64 (E[k]'hk).2)) := Lib.hid fun wk hfk k hk => by
              have h9 := hi5.fr hfk (fun g hg e => hrl g hg e)
              obtain ⟨A', c', e', hc'⟩ := h9
              simp only [Value.slice.injEq] at e'
              obtain ⟨rfl, _, rfl⟩ := e'
              obtain ⟨b, o, e2, hc⟩ := hc' k (by rw [List.length_map]; exact hk)
              rw [List.getElem_map] at hc
              exact ⟨b, o, e2, hc⟩
            have HF5 := Lib.hid (HF.out.then (hf5.mono (fun i _ h => HX.out i h)))
            have HTO5 := Lib.hid (Blk.fr HTO.out hf5 HXT.out)
            have HQ5 := Lib.hid hq5
            have HX5 := Lib.hid hx5
            have HE := Lib.hid hE
            have hEl := hE.le
            clear hrow hq5 hx5 hf5 hi5 hrl hE ct
            go_wp2_with fail
            go_loopw [11] (fun vk wk => ∃ k : Nat, k ≤ E.length ∧ vk = .int .i64 k ∧ ToldAt wk T ns.length (markE f E k) ∧ Fr (fun i => i = T) w5 wk) (fun vk _ => E.length - (intOf vk).toNat)
            case atStart => exact ⟨0, Nat.zero_le _, rfl, by rw [markE_zero]; exact HTO5.out, Fr.refl _ _⟩
            case round =>
              obtain ⟨k, hk, rfl, hTk, hfk⟩ := hrel
              have HFK := Lib.hid (HF5.out.then (hfk.mono (fun i _ h => by subst h; exact hTB)))
              have ct := HCT.out _ HFK.out
              by_cases hlt2 : k < E.length
              · obtain ⟨b5, o5, rfl, c5⟩ := HL.out _ hfk k hlt2
                obtain ⟨i, hi, e1, e2, h3, h4⟩ := HE.out.each k hlt2
                have hfr := HE.out.fresh HTOLD.out hlt2 hi e1 h4
                have c7 := ToldAt.cell hTk hi
                rw [hfr] at c7
                obtain ⟨b, off, rfl, c0⟩ := (HI.out _ HFK.out).el hi
                rw [e1] at c5
                clear hfr
                by_cases hk0 : k = 0
                · have nz : decide ((0 : Int) < (k : Int)) = false := decide_eq_false (by omega)
                  have nz3 : decide (0 < k) = false := decide_eq_false (by omega)
                  have HK0 := Lib.hid hk0
                  clear hk0
                  generalize ns[i] = y at *
                  have n5 : decide (t < y) = false := decide_eq_false (by omega)
                  have n6 : decide (y ≤ last) = false := decide_eq_false (by omega)
                  have n7 : decide ((i : Int) < 0) = false := decide_eq_false (by omega)
                  have n8 : decide ((ns.length : Int) ≤ (i : Int)) = false := decide_eq_false (by omega)
                  have l5 := Later.cell c5
                  have l0 := Later.cell c0
                  have l7 := Later.cell c7
                  have lt := Later.cell ct
                  clear c0 c7 ct
                  go_wp2_with fail
                  refine wp_region_later wr (by kernel_rfl) (by kernel_rfl) (Fr.refl _ _) ?_
                  clear c5
                  repeat (go_big_quiet_step (fail))
                  refine wpQuiet_nil ?_
                  rintro _ ⟨d, rfl⟩
                  have k5 := Later.cell (w0 := d.val) (l5 d)
                  have k0 := Later.cell (w0 := d.val) (l0 d)
                  clear l5 l0 l7 lt
                  go_wp2_with fail
                  refine wp_region_later d.val (by kernel_rfl) (by kernel_rfl) (Fr.refl _ _) ?_
                  repeat (go_big_quiet_step (fail))
                  refine wpQuiet_nil ?_
                  rintro _ ⟨d2, rfl⟩
                  have z5 := k5 d2
                  have hT9 : ToldAt d2.val T ns.length (markE f E k) := Blk.fr hTk (d.fr.then d2.fr) (fun h => h)
                  have f9 := Blk.frozen hT9 i
                  have z7 := ToldAt.cell hT9 hi
                  have HT9 := Lib.hid (hT9.set i)
                  have hfd := d.fr.then d2.fr
                  clear k5 k0 hT9
                  go_wp2
                  go_roundw
                  case rel =>
                    refine ⟨k + 1, by omega, by go_num, ?_, (hfk.then (hfd.mono (fun _ _ h => h.elim))).setCell (p := ⟨T, i, none⟩) (Or.inl rfl) _⟩
                    rw [← markE_succ hlt2 e1]
                    exact HT9.out
                  case measure => simp [intOf]; omega
                · obtain ⟨m, rfl⟩ : ∃ m, k = m + 1 := ⟨k - 1, by omega⟩
                  clear hk0
                  obtain ⟨b5', o5', hh5, c5m⟩ := HL.out _ hfk m (by omega)
                  cases hh5
                  obtain ⟨i', hi', e1', e2', _, _⟩ := HE.out.each m (by omega)
                  obtain ⟨b', off', hh0, c0m⟩ := (HI.out _ HFK.out).el hi'
                  cases hh0
                  have hltk := HE.out.lt m (by omega)
                  have hord : ns[i'] < ns[i] ∨ (ns[i'] = ns[i] ∧ i' < i) := by
                    have h9 := of_decide_eq_true (show decide ((E[m]'(by omega)).1 < (E[m + 1]'hlt2).1 ∨ ((E[m]'(by omega)).1 = (E[m + 1]'hlt2).1 ∧ (E[m]'(by omega)).2 < (E[m + 1]'hlt2).2)) = true from hltk)
                    rw [e1, e2, e1', e2'] at h9
                    omega
                  rw [e1'] at c5m
                  generalize ns[i'] = y' at *
                  have l5m := Later.cell c5m
                  have l0m := Later.cell c0m
                  clear c5m c0m hltk e1' e2'
                  generalize ns[i] = y at *
                  have n5 : decide (t < y) = false := decide_eq_false (by omega)
                  have n6 : decide (y ≤ last) = false := decide_eq_false (by omega)
                  have n7 : decide ((i : Int) < 0) = false := decide_eq_false (by omega)
                  have n8 : decide ((ns.length : Int) ≤ (i : Int)) = false := decide_eq_false (by omega)
                  have l5 := Later.cell c5
                  have l0 := Later.cell c0
                  have l7 := Later.cell c7
                  have lt := Later.cell ct
                  clear c0 c7 ct
                  go_wp2_with fail
                  refine wp_region_later wr (by kernel_rfl) (by kernel_rfl) (Fr.refl _ _) ?_
                  clear c5
                  repeat (go_big_quiet_step (fail))
                  refine wpQuiet_nil ?_
                  rintro _ ⟨d, rfl⟩
                  have k5 := Later.cell (w0 := d.val) (l5 d)
                  have k0 := Later.cell (w0 := d.val) (l0 d)
                  have k5m := Later.cell (w0 := d.val) (l5m d)
                  have k0m := Later.cell (w0 := d.val) (l0m d)
                  clear l5m l0m
                  clear l5 l0 l7 lt
                  go_wp2_with fail
                  rcases hord with ho | ⟨ho, ho2⟩
                  · have n9 : decide (y < y') = false := decide_eq_false (by omega)
                    have na : (y' == y) = false := beq_eq_false_iff_ne.2 (by omega)
                    refine wp_region_later d.val (by kernel_rfl) (by kernel_rfl) (Fr.refl _ _) ?_
                    repeat (go_big_quiet_step (fail))
                    refine wpQuiet_nil ?_
                    rintro _ ⟨d2, rfl⟩
                    have z5 := k5 d2
                    have hT9 : ToldAt d2.val T ns.length (markE f E (m + 1)) := Blk.fr hTk (d.fr.then d2.fr) (fun h => h)
                    have f9 := Blk.frozen hT9 i
                    have z7 := ToldAt.cell hT9 hi
                    have HT9 := Lib.hid (hT9.set i)
                    have hfd := d.fr.then d2.fr
                    clear k5 k0 k5m k0m hT9
                    go_wp2
                    go_roundw
                    case rel =>
                      refine ⟨(m + 1) + 1, by omega, by go_num, ?_, (hfk.then (hfd.mono (fun _ _ h => h.elim))).setCell (p := ⟨T, i, none⟩) (Or.inl rfl) _⟩
                      rw [← markE_succ hlt2 e1]
                      exact HT9.out
                    case measure => simp [intOf]; omega
                  · subst ho
                    have n9 : decide (y' < y') = false := decide_eq_false (by omega)
                    have na : (y' == y') = true := by simp
                    have nb : decide ((i : Int) ≤ (i' : Int)) = false := decide_eq_false (by omega)
                    refine wp_region_later d.val (by kernel_rfl) (by kernel_rfl) (Fr.refl _ _) ?_
                    repeat (go_big_quiet_step (fail))
                    refine wpQuiet_nil ?_
                    rintro _ ⟨d2, rfl⟩
                    have z5 := k5 d2
                    have hT9 : ToldAt d2.val T ns.length (markE f E (m + 1)) := Blk.fr hTk (d.fr.then d2.fr) (fun h => h)
                    have f9 := Blk.frozen hT9 i
                    have z7 := ToldAt.cell hT9 hi
                    have HT9 := Lib.hid (hT9.set i)
                    have hfd := d.fr.then d2.fr
                    clear k5 k0 k5m k0m hT9
                    go_wp2
                    go_roundw
                    case rel =>
                      refine ⟨(m + 1) + 1, by omega, by go_num, ?_, (hfk.then (hfd.mono (fun _ _ h => h.elim))).setCell (p := ⟨T, i, none⟩) (Or.inl rfl) _⟩
                      rw [← markE_succ hlt2 e1]
                      exact HT9.out
                    case measure => simp [intOf]; omega
              · obtain rfl : k = E.length := by omega
                have HT6 := Lib.hid hTk
                have HFk := Lib.hid hfk
                clear hTk hfk
                go_wp2
                go_roundw
                case rel =>
                  refine ⟨it + 1, t, dueK S1 t, _, X5, by omega, by go_num, rfl, HNX.out, HQ5.out.fr HFk.out (fun i hi e => HXT.out (HX5.out _ (e ▸ hi))), fun i hi => HX.out _ (HX5.out _ hi), fun h => HXT.out (HX5.out _ h), HT6.out, HFK.out⟩
                case measure => simp [intOf]; omega
        · obtain rfl : it = ts.length := by omega
          have HF := Lib.hid hf
          have HTO := Lib.hid hTo
          have HTOLD := Lib.hid hI.told
          clear hI hQ hX hXT hTo hf
          go_wp2_with fail
          have HFZ := HF
          generalize hwq : wr = wq at HF HTO
          subst hwq
          go_loopw [12] (fun vi wk => ∃ j : Nat, j ≤ ns.length ∧ vi = .int .i64 j ∧ ToldAt wk T ns.length f ∧ Fr (fun i => w.heap.size ≤ i) w wk) (fun vi _ => ns.length - (intOf vi).toNat)
          case atStart => exact ⟨0, Nat.zero_le _, rfl, HTO.out, HF.out⟩
          case round =>
            obtain ⟨j, hj, rfl, hTk, hfk⟩ := hrel
            by_cases hlt : j < ns.length
            · have c7 := ToldAt.cell hTk hlt
              rw [HTOLD.out j hlt] at c7
              obtain ⟨b, off, rfl, c0⟩ := (HI.out _ hfk).el hlt
              generalize ns[j] = y at *
              have l7 := Later.cell c7
              have l0 := Later.cell c0
              clear c7 c0
              have n1 : (decide (y ≤ last) != decide (y ≤ last)) = false := by simp
              go_wp2_with fail
              refine wp_region_later wr (by kernel_rfl) (by kernel_rfl) (Fr.refl _ _) ?_
              repeat (go_big_quiet_step (fail))
              refine wpQuiet_nil ?_
              rintro _ ⟨d, rfl⟩
              go_wp2
              go_roundw
              case rel => exact ⟨j + 1, by omega, by go_num, Blk.fr hTk d.fr (fun h => h), hfk.then (d.fr.mono (fun _ _ h => h.elim))⟩
              case measure => simp [intOf]; omega
            · obtain rfl : j = ns.length := by omega
              go_wp2_with fail
              refine (live8_any _).mono ?_
              rintro e wL ⟨rfl, hfL⟩
              go_wp2_with fail
              go_ret
              exact ⟨rfl, hfk.then (hfL.mono (fun _ _ h => h.elim))⟩

end Go.Proofs.Ytdlpiaglgdafoaa
