/-
  TimerMoves, walked.
-/
import Derived.Test.YtdlpiaglgdafoaaTx
namespace Go.Proofs.Ytdlpiaglgdafoaa
open Go.RowKit Go.Maps

theorem any_take_succ {L : List Int} {k : Nat} {id : Int} (h : k < L.length) : (L.take (k + 1)).any (· == id) = ((L.take k).any (· == id) || (L[k] == id)) := by
  rw [List.take_succ_eq_append_getElem h, List.any_append]
  simp

set_option maxRecDepth 40000 in
set_option maxHeartbeats 1500000 in
theorem timerMoves7_any (w : World) (v : Value) (ns : List Int) (h : NumsA w v ns) (id to : Int) (hid : wf64 id) (hto : wf64 to) :
    Calls Try.prog 7 #[v, .int .i64 id, .int .i64 to] w fun e w' => e = .returned (.bool true) ∧ Fr (fun i => w.heap.size ≤ i) w w' := by
  have htow := hto
  unfold wf64 at htow
  obtain ⟨A, cap, rfl⟩ := h.shape
  have hl := h.le
  unfold maxLen at hl
  have HI := Lib.hid (fun W (hf : Fr (fun i => w.heap.size ≤ i) w W) => h.fr (Nat.le_refl _) hf)
  clear h
  by_cases h60 : 60 < ns.length
  · have b1 : decide ((60 : Int) < (ns.length : Int)) = true := decide_eq_true (by omega)
    go_enter Try.func7, Try.ntmps7
    go_wp2_with fail
    refine (live8_any _).mono ?_
    rintro e wL ⟨rfl, hfL⟩
    go_wp2_with fail
    go_ret
    exact ⟨rfl, hfL.mono (fun _ _ h => h.elim)⟩
  have b1 : decide ((60 : Int) < (ns.length : Int)) = false := decide_eq_false (by omega)
  by_cases hid0 : id < 0
  · go_enter Try.func7, Try.ntmps7
    go_wp2_with fail
    refine (live8_any _).mono ?_
    rintro e wL ⟨rfl, hfL⟩
    go_wp2_with fail
    go_ret
    exact ⟨rfl, hfL.mono (fun _ _ h => h.elim)⟩
  by_cases hid1 : (ns.length : Int) ≤ id
  · go_enter Try.func7, Try.ntmps7
    go_wp2_with fail
    refine (live8_any _).mono ?_
    rintro e wL ⟨rfl, hfL⟩
    go_wp2_with fail
    go_ret
    exact ⟨rfl, hfL.mono (fun _ _ h => h.elim)⟩
  have HN := Lib.hid (new_ts w)
  go_enter Try.func7, Try.ntmps7
  go_wp2_with fail
  refine HN.out.mono ?_
  rintro e w1 ⟨q, rfl, ht1, hf1⟩
  have HR := Lib.hid (show SetRel ns q w (.int .i64 (0 : Nat)) w1 from ⟨0, [], Nat.zero_le _, rfl, AllOf.nil, ht1, hf1.mono (fun _ _ h => h.elim)⟩)
  clear ht1 hf1
  go_wp2_with fail
  go_loopw [8] (fun i wr => SetRel ns q w i wr) (fun i _ => ns.length - (intOf i).toNat)
  case atStart => exact HR.out
  case round =>
    obtain ⟨j, S, hj, rfl, hA, hT, hf⟩ := hrel
    by_cases hlt : j < ns.length
    · obtain ⟨b, off, rfl, c0⟩ := (HI.out _ hf).el hlt
      have HAS := Lib.hid (fun h0 => hA.set hlt h0)
      have C10 := Lib.hid (set_ts hT (j : Nat) (ns[j]'hlt) (nat_wf (by omega)) _ rfl rfl)
      have HF := Lib.hid hf
      clear hA hT hf
      generalize ns[j] = x at *
      by_cases h0 : setN S (j : Nat) x = 0
      · rw [h0] at C10
        have HA1 := Lib.hid (HAS.out h0)
        clear h0
        go_wp2_with fail
        refine C10.out.mono ?_
        rintro e w2 ⟨rfl, ht2, hf2⟩
        have HT2 := Lib.hid ht2
        have HF2 := Lib.hid (HF.out.then hf2)
        clear ht2 hf2 c0
        go_wp2
        go_roundw
        case rel => exact ⟨j + 1, _, by omega, by go_num, HA1.out, HT2.out, HF2.out⟩
        case measure => simp [intOf]; omega
      · have h0' : (setN S (j : Nat) x != 0) = true := by simpa using h0
        generalize setN S (j : Nat) x = r at *
        generalize setK S (j : Nat) x = S1 at *
        go_wp2_with fail
        refine C10.out.mono ?_
        rintro e w2 ⟨rfl, ht2, hf2⟩
        have HF2 := Lib.hid (HF.out.then hf2)
        clear ht2 hf2 c0
        go_wp2_with fail
        refine (live8_any _).mono ?_
        rintro e wL ⟨rfl, hfL⟩
        go_wp2_with fail
        go_ret
        exact ⟨rfl, HF2.out.then (hfL.mono (fun _ _ h => h.elim))⟩
    · obtain rfl : j = ns.length := by omega
      have HF := Lib.hid hf
      rcases hA.move_code (by omega) (id := id) (to := to) (by omega) (by omega) with h0 | ⟨h0, hbad⟩
      · have hM := hA.move (by omega) (by omega) h0
        have C10 := Lib.hid (set_ts hT id to hid 0 h0 rfl)
        clear hA hT hf h0
        generalize setK S id to = S1 at *
        have hM1 := hM.at_
        have hlen1 := hM.len
        have hm := hM.ok.le
        go_wp2_with fail
        refine C10.out.mono ?_
        rintro e w2 ⟨rfl, ht2, hf2⟩
        have HT2 := Lib.hid ht2
        have HF2 := Lib.hid (HF.out.then hf2)
        have C16 := Lib.hid (at_ts ht2 id hid (some to) hM1)
        clear ht2 hf2 hM1
        go_wp2_with fail
        refine C16.out.mono ?_
        rintro e w3 ⟨rfl, rfl⟩
        by_cases hto0 : 0 < to
        · have hgt : to > 0 := hto0
          have hin := hM.late
          have HEA := Lib.hid (fun d hd => hM.early (d := d) hd)
          have hdl0 := dueN_len S1 (to - 1)
          have C11a := Lib.hid (due_ts HT2.out (to - 1) _ rfl rfl)
          clear hM
          generalize dueN S1 (to - 1) = D1 at *
          generalize dueK S1 (to - 1) = S2 at *
          have HINA := Lib.hid hin
          clear hin
          go_wp2_with fail
          refine C11a.out.mono ?_
          rintro e w5 ⟨v5, rfl, hrow5, ht5, hf5⟩
          have HI5 := Lib.hid (IntsV.of_row hrow5)
          obtain ⟨A5, cap5, rfl⟩ := row_shape hrow5
          have HF5 := Lib.hid (HF2.out.then hf5)
          have HT5 := Lib.hid ht5
          clear hrow5 ht5 hf5
          go_wp2_with fail
          go_loopw [13] (fun i wr => ∃ k : Nat, k ≤ D1.length ∧ i = .int .i64 k ∧ Fr (fun _ => False) w5 wr) (fun i _ => D1.length - (intOf i).toNat)
          case atStart => exact ⟨0, Nat.zero_le _, rfl, Fr.refl _ _⟩
          case round =>
            obtain ⟨k, hk, rfl, hf6⟩ := hrel
            have HFX := Lib.hid (HF5.out.then (hf6.mono (fun _ _ h => h.elim)))
            by_cases hlt : k < D1.length
            · obtain ⟨b5, o5, rfl, c5⟩ := (HI5.out.fr0 hf6).el hlt
              obtain ⟨hne, i, e1, hi, hv⟩ := HEA.out _ (List.getElem_mem hlt)
              obtain ⟨b, off, rfl, c0⟩ := (HI.out _ HFX.out).el hi
              rw [e1] at c5 hne
              have n3 : ((i : Int) == id) = false := by simpa using hne
              generalize ns[i] = y at *
              have n4 : decide (to ≤ y) = false := decide_eq_false (by omega)
              clear hne e1
              go_wp2
              go_roundw
              case rel => exact ⟨k + 1, by omega, by go_num, hf6⟩
              case measure => simp [intOf]; omega
            · obtain rfl : k = D1.length := by omega
              have HTT := Lib.hid (HT5.out.fr0 hf6)
              have hin := HINA.out
              clear hf6
              have C11 := Lib.hid (due_ts HTT.out to _ rfl rfl)
              have hdl := dueN_len S2 to
              generalize dueN S2 to = D2 at *
              generalize dueK S2 to = S3 at *
              have HIN := Lib.hid hin
              clear hin
              go_wp2_with fail
              refine C11.out.mono ?_
              rintro e w8 ⟨v8, rfl, hrow8, ht8, hf8⟩
              have HI8 := Lib.hid (IntsV.of_row hrow8)
              obtain ⟨A8, cap8, rfl⟩ := row_shape hrow8
              have HF8 := Lib.hid (HFX.out.then hf8)
              have HT8 := Lib.hid ht8
              clear hrow8 ht8 hf8
              go_wp2_with fail
              go_loopw [15, 16] (fun f i wr => ∃ k : Nat, k ≤ D2.length ∧ i = .int .i64 k ∧ f = .bool ((D2.take k).any (· == id)) ∧ Fr (fun _ => False) w8 wr) (fun _ i _ => D2.length - (intOf i).toNat)
              case atStart => exact ⟨0, Nat.zero_le _, rfl, rfl, Fr.refl _ _⟩
              case round =>
                obtain ⟨k, hk, rfl, rfl, hf9⟩ := hrel
                by_cases hlt : k < D2.length
                · obtain ⟨b8, o8, rfl, c8⟩ := (HI8.out.fr0 hf9).el hlt
                  have HST := Lib.hid (any_take_succ (id := id) hlt)
                  generalize D2[k] = x at *
                  generalize (D2.take k).any (· == id) = b at *
                  cases b with
                  | true =>
                    go_wp2
                    go_roundw
                    case rel => exact ⟨k + 1, by omega, by go_num, by rw [HST.out]; rfl, hf9⟩
                    case measure => simp [intOf]; omega
                  | false =>
                    cases hx : (x == id) with
                    | true =>
                      go_wp2
                      go_roundw
                      case rel => exact ⟨k + 1, by omega, by go_num, by rw [HST.out, hx]; rfl, hf9⟩
                      case measure => simp [intOf]; omega
                    | false =>
                      go_wp2
                      go_roundw
                      case rel => exact ⟨k + 1, by omega, by go_num, by rw [HST.out, hx]; rfl, hf9⟩
                      case measure => simp [intOf]; omega
                · obtain rfl : k = D2.length := by omega
                  have hb : (D2.take D2.length).any (· == id) = true := by
                    rw [List.take_length]
                    exact List.any_eq_true.2 ⟨id, HIN.out, by simp⟩
                  rw [hb]
                  clear hb
                  have HF9 := Lib.hid (HF8.out.then (hf9.mono (fun _ _ h => h.elim)))
                  have C14 := Lib.hid (len_ts (HT8.out.fr0 hf9) S3.length rfl)
                  have e14 : ((S3.length : Int) == (ns.length : Int) - (D1.length : Int) - (D2.length : Int)) = true := beq_iff_eq.2 (by omega)
                  have tt : (to == to) = true := by simp
                  go_wp2_with fail
                  refine C14.out.mono ?_
                  rintro e w10 ⟨rfl, rfl⟩
                  go_wp2_with fail
                  refine (live8_any _).mono ?_
                  rintro e wL ⟨rfl, hfL⟩
                  go_wp2_with fail
                  go_ret
                  exact ⟨rfl, HF9.out.then (hfL.mono (fun _ _ h => h.elim))⟩
        · have hin := hM.late0
          have hto1 : ¬ to > 0 := hto0
          clear hM
          have HTT := HT2
          have HFX := HF2
          generalize hS2 : S1 = S2 at *
          have C11 := Lib.hid (due_ts HTT.out to _ rfl rfl)
          have hdl := dueN_len S2 to
          generalize dueN S2 to = D2 at *
          generalize dueK S2 to = S3 at *
          have HIN := Lib.hid hin
          clear hin
          go_wp2_with fail
          refine C11.out.mono ?_
          rintro e w8 ⟨v8, rfl, hrow8, ht8, hf8⟩
          have HI8 := Lib.hid (IntsV.of_row hrow8)
          obtain ⟨A8, cap8, rfl⟩ := row_shape hrow8
          have HF8 := Lib.hid (HFX.out.then hf8)
          have HT8 := Lib.hid ht8
          clear hrow8 ht8 hf8
          go_wp2_with fail
          go_loopw [15, 16] (fun f i wr => ∃ k : Nat, k ≤ D2.length ∧ i = .int .i64 k ∧ f = .bool ((D2.take k).any (· == id)) ∧ Fr (fun _ => False) w8 wr) (fun _ i _ => D2.length - (intOf i).toNat)
          case atStart => exact ⟨0, Nat.zero_le _, rfl, rfl, Fr.refl _ _⟩
          case round =>
            obtain ⟨k, hk, rfl, rfl, hf9⟩ := hrel
            by_cases hlt : k < D2.length
            · obtain ⟨b8, o8, rfl, c8⟩ := (HI8.out.fr0 hf9).el hlt
              have HST := Lib.hid (any_take_succ (id := id) hlt)
              generalize D2[k] = x at *
              generalize (D2.take k).any (· == id) = b at *
              cases b with
              | true =>
                go_wp2
                go_roundw
                case rel => exact ⟨k + 1, by omega, by go_num, by rw [HST.out]; rfl, hf9⟩
                case measure => simp [intOf]; omega
              | false =>
                cases hx : (x == id) with
                | true =>
                  go_wp2
                  go_roundw
                  case rel => exact ⟨k + 1, by omega, by go_num, by rw [HST.out, hx]; rfl, hf9⟩
                  case measure => simp [intOf]; omega
                | false =>
                  go_wp2
                  go_roundw
                  case rel => exact ⟨k + 1, by omega, by go_num, by rw [HST.out, hx]; rfl, hf9⟩
                  case measure => simp [intOf]; omega
            · obtain rfl : k = D2.length := by omega
              have hb : (D2.take D2.length).any (· == id) = true := by
                rw [List.take_length]
                exact List.any_eq_true.2 ⟨id, HIN.out, by simp⟩
              rw [hb]
              clear hb
              have HF9 := Lib.hid (HF8.out.then (hf9.mono (fun _ _ h => h.elim)))
              have C14 := Lib.hid (len_ts (HT8.out.fr0 hf9) S3.length rfl)
              have e14 : ((S3.length : Int) == (ns.length : Int) - 0 - (D2.length : Int)) = true := beq_iff_eq.2 (by omega)
              have tt : (to == to) = true := by simp
              go_wp2_with fail
              refine C14.out.mono ?_
              rintro e w10 ⟨rfl, rfl⟩
              go_wp2_with fail
              refine (live8_any _).mono ?_
              rintro e wL ⟨rfl, hfL⟩
              go_wp2_with fail
              go_ret
              exact ⟨rfl, HF9.out.then (hfL.mono (fun _ _ h => h.elim))⟩
      · have C10 := Lib.hid (set_ts hT id to hid 1 h0 rfl)
        clear hA hT hf h0
        generalize setK S id to = S1 at *
        go_wp2_with fail
        refine C10.out.mono ?_
        rintro e w2 ⟨rfl, ht2, hf2⟩
        have HF2 := Lib.hid (HF.out.then hf2)
        clear ht2 hf2
        rcases (show to < 0 ∨ (¬ to < 0 ∧ to > 1099511627776) by omega) with hb1 | ⟨hb1, hb2⟩
        all_goals
          go_wp2_with fail
          refine (live8_any _).mono ?_
          rintro e wL ⟨rfl, hfL⟩
          go_wp2_with fail
          go_ret
          exact ⟨rfl, HF2.out.then (hfL.mono (fun _ _ h => h.elim))⟩

end Go.Proofs.Ytdlpiaglgdafoaa
