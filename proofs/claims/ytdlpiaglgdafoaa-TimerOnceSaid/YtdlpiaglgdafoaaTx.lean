/-
  TimerNext, walked.
-/
import Derived.Test.YtdlpiaglgdafoaaTw
namespace Go.Proofs.Ytdlpiaglgdafoaa
open Go.RowKit Go.Maps

theorem IntsV.el {W : World} {A : Option Addr} {cap : Nat} {ns : List Int} (h : IntsV W (.slice A ns.length cap) ns) {k : Nat} (hk : k < ns.length) :
    ∃ b off, A = some ⟨b, off, none⟩ ∧ W.cell? ⟨b, off + k, none⟩ = some (.int .i64 (ns[k]'hk)) := by
  obtain ⟨A', cap', e, hc⟩ := h
  cases e
  exact hc k hk
theorem IntsV.sh {W : World} {v : Value} {ns : List Int} (h : IntsV W v ns) : ∃ A cap, v = .slice A ns.length cap := let ⟨A, cap, e, _⟩ := h; ⟨A, cap, e⟩

theorem nat_wf {j : Nat} (h : j < 1000) : wf64 (j : Int) := by unfold wf64; omega

/-- After the loop: what is set. -/
def SetRel (ns : List Int) (q : Nat) (w : World) (i : Value) (wr : World) : Prop :=
  ∃ (j : Nat) (S : List KeyD), j ≤ ns.length ∧ i = .int .i64 j ∧ AllOf ns j S ∧ TS wr q w.heap.size S ∧ Fr (fun i => w.heap.size ≤ i) w wr

set_option maxRecDepth 40000 in
set_option maxHeartbeats 4000000 in
theorem timerNext4_any (w : World) (v : Value) (ns : List Int) (h : NumsA w v ns) (gone : Int) (hg : wf64 gone) :
    Calls Try.prog 4 #[v, .int .i64 gone] w fun e w' => e = .returned (.bool true) ∧ Fr (fun i => w.heap.size ≤ i) w w' := by
  obtain ⟨A, cap, rfl⟩ := h.shape
  have hl := h.le
  unfold maxLen at hl
  have HI := Lib.hid (fun W (hf : Fr (fun i => w.heap.size ≤ i) w W) => h.fr (Nat.le_refl _) hf)
  clear h
  by_cases h60 : 100 < ns.length
  · have b1 : decide ((100 : Int) < (ns.length : Int)) = true := decide_eq_true (by omega)
    go_enter Try.func4, Try.ntmps4
    go_wp2_with fail
    refine (live8_any _).mono ?_
    rintro e w2 ⟨rfl, hf2⟩
    go_wp2_with fail
    go_ret
    exact ⟨rfl, hf2.mono (fun _ _ h => h.elim)⟩
  · have b1 : decide ((100 : Int) < (ns.length : Int)) = false := decide_eq_false (by omega)
    have HN := Lib.hid (new_ts w)
    go_enter Try.func4, Try.ntmps4
    go_wp2_with fail
    refine HN.out.mono ?_
    rintro e w1 ⟨q, rfl, ht1, hf1⟩
    have HR := Lib.hid (show SetRel ns q w (.int .i64 (0 : Nat)) w1 from ⟨0, [], Nat.zero_le _, rfl, AllOf.nil, ht1, hf1.mono (fun _ _ h => h.elim)⟩)
    clear ht1 hf1
    go_wp2_with fail
    go_loopw [6] (fun i wr => SetRel ns q w i wr) (fun i _ => ns.length - (intOf i).toNat)
    case atStart => exact HR.out
    case round =>
      obtain ⟨j, S, hj, rfl, hA, hT, hf⟩ := hrel
      by_cases hlt : j < ns.length
      · obtain ⟨b, off, rfl, c0⟩ := (HI.out _ hf).el hlt
        have HAS := Lib.hid (fun h0 => hA.set hlt h0)
        have C10 := Lib.hid (set_ts hT (j : Nat) (ns[j]'hlt) (nat_wf (by omega)) _ rfl rfl)
        have HF := Lib.hid hf
        clear hA hT hf
        generalize ns[j] = x at *
        by_cases h0 : setN S (j : Nat) x = 0
        · rw [h0] at C10
          have HA1 := Lib.hid (HAS.out h0)
          clear h0
          go_wp2_with fail
          refine C10.out.mono ?_
          rintro e w2 ⟨rfl, ht2, hf2⟩
          have HT2 := Lib.hid ht2
          have HF2 := Lib.hid (HF.out.then hf2)
          clear ht2 hf2 c0
          go_wp2
          go_roundw
          case rel => exact ⟨j + 1, _, by omega, by go_num, HA1.out, HT2.out, HF2.out⟩
          case measure => simp [intOf]; omega
        · have h0' : (setN S (j : Nat) x != 0) = true := by simpa using h0
          generalize setN S (j : Nat) x = r at *
          generalize setK S (j : Nat) x = S1 at *
          go_wp2_with fail
          refine C10.out.mono ?_
          rintro e w2 ⟨rfl, ht2, hf2⟩
          have HF2 := Lib.hid (HF.out.then hf2)
          clear ht2 hf2 c0
          go_wp2_with fail
          refine (live8_any _).mono ?_
          rintro e w3 ⟨rfl, hf3⟩
          go_wp2_with fail
          go_ret
          exact ⟨rfl, HF2.out.then (hf3.mono (fun _ _ h => h.elim))⟩
      · obtain rfl : j = ns.length := by omega
        have HF := Lib.hid hf
        have C12 := Lib.hid (cancel_ts hT gone hg _ (hA.has gone) rfl)
        have HFD := Lib.hid (fun p r e => first_due (gone := gone) (p := p) (r := r) hA e)
        clear hA hT hf
        generalize hS1 : remK gone S = S1 at *
        have bh : decide (0 ≤ gone ∧ gone < (ns.length : Int)) = (decide (0 ≤ gone) && decide (gone < (ns.length : Int))) := by
          rw [Bool.decide_and]
        cases S1 with
        | nil =>
          clear HFD
          rcases (show (0 ≤ gone ∧ gone < (ns.length : Int)) ∨ (¬ 0 ≤ gone ∧ gone < (ns.length : Int)) ∨ (0 ≤ gone ∧ ¬ gone < (ns.length : Int)) by omega) with ⟨g1, g2⟩ | ⟨g1, g2⟩ | ⟨g1, g2⟩
          all_goals
            simp only [g1, g2, decide_true, decide_false, and_true, true_and, and_false, false_and] at C12
            go_wp2_with fail
            refine C12.out.mono ?_
            rintro e w2 ⟨rfl, ht2, hf2⟩
            have HF2 := Lib.hid (HF.out.then hf2)
            have C13 := Lib.hid (next_ts ht2 0 0 false rfl)
            clear ht2 hf2
            go_wp2_with fail
            refine C13.out.mono ?_
            rintro e w3 ⟨rfl, ht3, hf3⟩
            have HF3 := Lib.hid (HF2.out.then (hf3.mono (fun _ _ h => h.elim)))
            have C14 := Lib.hid (len_ts ht3 0 rfl)
            have C11 := Lib.hid (due_ts ht3 1099511627776 [] rfl rfl)
            clear ht3 hf3
            go_wp2_with fail
            refine C14.out.mono ?_
            rintro e w4 ⟨rfl, rfl⟩
            go_wp2_with fail
            refine C11.out.mono ?_
            rintro e w5 ⟨v5, rfl, hrow5, ht5, hf5⟩
            obtain ⟨A5, cap5, rfl⟩ := row_shape hrow5
            have HF5 := Lib.hid (HF3.out.then hf5)
            clear hrow5 ht5 hf5
            go_wp2_with fail
            refine (live8_any _).mono ?_
            rintro e w6 ⟨rfl, hf6⟩
            go_wp2_with fail
            go_ret
            exact ⟨rfl, HF5.out.then (hf6.mono (fun _ _ h => h.elim))⟩
        | cons p r =>
          have hFD := HFD.out p r rfl
          clear HFD hS1
          rcases (show (0 ≤ gone ∧ gone < (ns.length : Int)) ∨ (¬ 0 ≤ gone ∧ gone < (ns.length : Int)) ∨ (0 ≤ gone ∧ ¬ gone < (ns.length : Int)) by omega) with ⟨g1, g2⟩ | ⟨g1, g2⟩ | ⟨g1, g2⟩
          all_goals
            simp only [g1, g2, decide_true, decide_false, and_true, true_and, and_false, false_and] at C12
            go_wp2_with fail
            refine C12.out.mono ?_
            rintro e w2 ⟨rfl, ht2, hf2⟩
            have HF2 := Lib.hid (HF.out.then hf2)
            have C13 := Lib.hid (next_ts ht2 p.2 p.1 true rfl)
            clear ht2 hf2
            go_wp2_with fail
            refine C13.out.mono ?_
            rintro e w3 ⟨rfl, ht3, hf3⟩
            have HF3 := Lib.hid (HF2.out.then (hf3.mono (fun _ _ h => h.elim)))
            have C14 := Lib.hid (len_ts ht3 (p :: r).length rfl)
            have C11 := Lib.hid (due_ts ht3 p.1 _ rfl rfl)
            have n1 : 0 < (p :: r).length := by simp only [List.length_cons]; omega
            clear ht3 hf3
            generalize (p :: r).length = n3 at *
            generalize dueN (p :: r) p.1 = D at *
            generalize dueK (p :: r) p.1 = S4 at *
            go_wp2_with fail
            refine C14.out.mono ?_
            rintro e w4 ⟨rfl, rfl⟩
            go_wp2_with fail
            refine C11.out.mono ?_
            rintro e w5 ⟨v5, rfl, hrow5, ht5, hf5⟩
            have hi5 := IntsV.of_row hrow5
            obtain ⟨A5, cap5, rfl⟩ := row_shape hrow5
            have HF5 := Lib.hid (HF3.out.then hf5)
            have HI5 := Lib.hid hi5
            have hD0 : 0 < D.length := by
              have := hFD.head
              cases D with
              | nil => cases this
              | cons a b => simp
            have n2 : ((D.length : Int) == 0) = false := beq_eq_false_iff_ne.2 (by omega)
            have hDl := hFD.le
            clear hrow5 ht5 hf5 hi5
            go_wp2_with fail
            go_loopw [12] (fun i wr => ∃ k : Nat, k ≤ D.length ∧ i = .int .i64 k ∧ Fr (fun _ => False) w5 wr) (fun i _ => D.length - (intOf i).toNat)
            case atStart => exact ⟨0, Nat.zero_le _, rfl, Fr.refl _ _⟩
            case round =>
              obtain ⟨k, hk, rfl, hf6⟩ := hrel
              have HF6 := Lib.hid (HF5.out.then (hf6.mono (fun _ _ h => h.elim)))
              by_cases hlt : k < D.length
              · obtain ⟨b5, o5, rfl, c5⟩ := (HI5.out.fr0 hf6).el hlt
                obtain ⟨hne, i, e1, hi, hv⟩ := hFD.each _ (List.getElem_mem hlt)
                obtain ⟨b, off, rfl, c0⟩ := (HI.out _ HF6.out).el hi
                rw [hv] at c0
                rw [e1] at c5 hne
                have n3 : ((i : Int) == gone) = false := by simpa using hne
                clear hne e1 hv
                go_wp2
                go_roundw
                case rel => exact ⟨k + 1, by omega, by go_num, hf6⟩
                case measure => simp [intOf]; omega
              · obtain rfl : k = D.length := by omega
                obtain ⟨b5, o5, rfl, c5⟩ := (HI5.out.fr0 hf6).el hD0
                have e1 : D[0] = p.2 := by
                  have := hFD.head
                  rw [List.getElem?_eq_getElem hD0] at this
                  exact Option.some.inj this
                rw [e1] at c5
                simp only [Nat.add_zero] at c5
                go_wp2_with fail
                refine (live8_any _).mono ?_
                rintro e w7 ⟨rfl, hf7⟩
                go_wp2_with fail
                go_ret
                exact ⟨rfl, HF6.out.then (hf7.mono (fun _ _ h => h.elim))⟩

end Go.Proofs.Ytdlpiaglgdafoaa
