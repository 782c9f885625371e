/-
  TimerNil, TimerScripts, walked.
-/
import Derived.Test.YtdlpiaglgdafoaaTu
namespace Go.Proofs.Ytdlpiaglgdafoaa
open Go.RowKit Go.Maps

set_option maxRecDepth 20000 in
set_option maxHeartbeats 2000000 in
theorem timerNil6_any (n : Int) (w : World) : Calls Try.prog 6 #[.int .i64 n] w fun e w' => e = .returned (.bool true) ∧ Fr (fun _ => False) w w' := by
  go_enter Try.func6, Try.ntmps6
  go_wp2_with fail
  refine (at16_nil _ n).mono ?_
  rintro e w1 ⟨rfl, rfl⟩
  go_wp2_with fail
  refine (next13_nil _).mono ?_
  rintro e w1 ⟨rfl, rfl⟩
  go_wp2_with fail
  refine (set10_nil _ n n).mono ?_
  rintro e w1 ⟨rfl, rfl⟩
  go_wp2_with fail
  refine (cancel12_nil _ n).mono ?_
  rintro e w1 ⟨rfl, rfl⟩
  go_wp2_with fail
  refine (due11_nil _ n).mono ?_
  rintro e w1 ⟨rfl, rfl⟩
  go_wp2_with fail
  refine (len14_nil _).mono ?_
  rintro e w1 ⟨rfl, rfl⟩
  go_wp2_with fail
  refine (live8_any _).mono ?_
  rintro e w1 ⟨rfl, hf⟩
  go_wp2
  go_ret
  exact ⟨rfl, hf⟩

theorem OpsT.el {w : World} {B : Nat} {A : Option Addr} {l : List OpT} (h : OpsT w B A l) {k : Nat} (hk : k < l.length) :
    ∃ g off, A = some ⟨g, off, none⟩ ∧ g < B ∧ (∀ W : World, Fr (fun i => B ≤ i) w W → B ≤ w.heap.size → W.cell? ⟨g, off + k * 3, none⟩ = some (.int .i64 (l[k]'hk).do_) ∧ W.cell? ⟨g, off + k * 3 + 1, none⟩ = some (.int .i64 (l[k]'hk).id) ∧ W.cell? ⟨g, off + k * 3 + 2, none⟩ = some (.int .i64 (l[k]'hk).at_)) := by
  obtain ⟨b, off, rfl, hB, hc⟩ := h.at_ k hk
  refine ⟨b, off, rfl, hB, fun W hf hs => ?_⟩
  have hh : ∀ x, W.cell? ⟨b, x, none⟩ = w.cell? ⟨b, x, none⟩ := fun x => World.cell?_of_block (a := ⟨b, x, none⟩) (hf.block b (by omega) (by omega))
  rw [hh, hh, hh]
  exact ⟨hc 0 _ rfl, hc 1 _ rfl, hc 2 _ rfl⟩

theorem len14_fr (w : World) (q : Nat) (S : List KeyD) (X : Nat → Prop) (h : TQ w q S X) : Calls Try.prog 14 #[.pointer (some ⟨q, 0, none⟩)] w fun e w' => e = .returned (.int .i64 S.length) ∧ Fr (fun _ => False) w w' :=
  (len14_any w q S X h).mono fun e w' h => ⟨h.1, h.2 ▸ Fr.refl _ _⟩

set_option maxRecDepth 40000 in
set_option maxHeartbeats 4000000 in
theorem scripts5_any (w : World) (A : Option Addr) (cap : Nat) (L : List OpT) (h : OpsT w w.heap.size A L) (hl : L.length ≤ maxLen) :
    Calls Try.prog 5 #[.slice A L.length cap] w fun e w' => e = .returned (.bool true) ∧ Fr (fun i => w.heap.size ≤ i) w w' := by
  have HO := Lib.hid h
  unfold maxLen at hl
  clear h
  by_cases h60 : 400 < L.length
  · have b1 : decide ((400 : Int) < (L.length : Int)) = true := decide_eq_true (by omega)
    go_enter Try.func5, Try.ntmps5
    go_wp2_with fail
    refine (live8_any _).mono ?_
    rintro e w2 ⟨rfl, hf2⟩
    go_wp2_with fail
    go_ret
    exact ⟨rfl, hf2.mono (fun _ _ h => h.elim)⟩
  · have b1 : decide ((400 : Int) < (L.length : Int)) = false := decide_eq_false (by omega)
    have HN := Lib.hid (new9_any w)
    go_enter Try.func5, Try.ntmps5
    go_wp2_with fail
    refine HN.out.mono ?_
    rintro e w1 ⟨q, X0, rfl, ht1, hf1, hX1⟩
    have hD : DSt (w1.alloc (.cells #[.slice none 0 0] 40)) q w1.heap.size w.heap.size [] := by
      refine ⟨X0, fun i => i = w1.heap.size ∨ (Value.slice none 0 0).ownBlock = some i, ht1.fr0 ((Fr.refl _ _).alloc _), ⟨.slice none 0 0, Blk.new _ _ _, World.ownsRow_nil _ _ _ _, rfl⟩, fun i hi h => ?_, hX1, fun i hi => ?_⟩
      · rcases h with rfl | h
        · have := ht1.lt hi; omega
        · cases h
      · rcases hi with rfl | h
        · exact hf1.size
        · cases h
    have HD := Lib.hid hD
    have HF := Lib.hid ((hf1.mono (S' := fun i => w.heap.size ≤ i) (fun _ _ h => h.elim)).alloc (.cells #[.slice none 0 0] 40))
    clear hD ht1 hf1 hX1
    go_wp2_with fail
    generalize w1.heap.size = k at *
    go_loopw [5] (fun i wr => ∃ (n : Nat) (S : List KeyD), n ≤ L.length ∧ i = .int .i64 n ∧ DSt wr q k w.heap.size S ∧ Fr (fun i => w.heap.size ≤ i) w wr) (fun i _ => L.length - (intOf i).toNat)
    case atStart => exact ⟨0, [], Nat.zero_le _, rfl, HD.out, HF.out⟩
    case round =>
      obtain ⟨n, S, hn, rfl, hS, hf⟩ := hrel
      by_cases hlt : n < L.length
      · obtain ⟨g, off, rfl, hg, hel⟩ := HO.out.el hlt
        have how := HO.out.wf _ (List.getElem_mem hlt)
        generalize L[n] = o at *
        obtain ⟨do_, id, at_⟩ := o
        have h15 := does15_any wr q k w.heap.size S hS hf.size ⟨do_, id, at_⟩ how
        simp only [OpT.val] at h15 how hel
        have H15 := Lib.hid h15
        have HEL := Lib.hid hel
        obtain ⟨c0, c1, c2⟩ := hel _ hf (Nat.le_refl _)
        have HFR := Lib.hid hf
        clear hel h15 hS hf
        go_wp2_with fail
        refine H15.out.mono ?_
        rintro e w4 ⟨rfl, hd4, hf4⟩
        generalize doesS S ⟨do_, id, at_⟩ = S' at hd4
        have HF4 := Lib.hid (HFR.out.then hf4)
        have hl4 := hd4.ok.le
        have HD4 := Lib.hid hd4
        obtain ⟨X, Y, ht4, hr4, _, _, _⟩ := hd4
        have C16 := Lib.hid (at16_any w4 q S' X ht4 id how)
        have C17 := Lib.hid (at17_any w4 k S' Y hr4 id (by omega) (atK id S') (Lib.hid rfl))
        have C13 := Lib.hid (fun W (hf : Fr (fun _ => False) w4 W) => next13_any W q S' X (ht4.fr0 hf))
        have C18 := Lib.hid (fun W (hf : Fr (fun _ => False) w4 W) => next18_any W k S' Y (hr4.fr0 hf) (by omega))
        have C14 := Lib.hid (fun W (hf : Fr (fun _ => False) w4 W) => len14_fr W q S' X (ht4.fr0 hf))
        obtain ⟨v4, hb4, hr5, _⟩ := hr4
        obtain ⟨A4, cap4, rfl⟩ := row_shape hr5
        have HB4 := Lib.hid hb4
        clear ht4 hb4 hr5 hf4 c0 c1 c2
        generalize (atK id S').getD 0 = a at *
        generalize (atK id S').isSome = is at *
        generalize nextK S' = nx at *
        obtain ⟨na, nb, nc⟩ := nx
        simp only at C13 C18
        obtain ⟨c0, c1, c2⟩ := HEL.out _ HF4.out (Nat.le_refl _)
        go_wp2_with fail
        refine C16.out.mono ?_
        rintro e w5 ⟨rfl, rfl⟩
        go_wp2_with fail
        refine C17.out.mono ?_
        rintro e w5 ⟨rfl, hf5⟩
        have HG5 := Lib.hid hf5
        clear c0 c1 c2 hf5
        go_wp2_with fail
        refine (C13.out _ HG5.out).mono ?_
        rintro e w6 ⟨rfl, hf6⟩
        have HG6 := Lib.hid (HG5.out.then hf6)
        clear hf6
        go_wp2_with fail
        refine (C18.out _ HG6.out).mono ?_
        rintro e w7 ⟨rfl, hf7⟩
        have HG7 := Lib.hid (HG6.out.then hf7)
        have l0 := Later.cell (w0 := w7) ((HB4.out.fr HG7.out (fun h => h)).cell 0)
        have HC14 := Lib.hid (fun (d : Later w7) => C14.out d.val (HG7.out.then d.fr))
        clear hf7
        have e1 : (a != a) = false := by simp
        have e2 : (is != is) = false := by simp
        have e3 : (na != na) = false := by simp
        have e4 : (nb != nb) = false := by simp
        have e5 : (nc != nc) = false := by simp
        have e6 : ((S'.length : Int) != (S'.length : Int)) = false := by simp
        go_wp2_with fail
        refine wp_region_later w7 (by kernel_rfl) (by kernel_rfl) (Fr.refl _ _) ?_
        repeat (go_big_quiet_step (first | (go_at_call 14; exact later_call (HC14.out _))))
        refine wpQuiet_nil ?_
        rintro _ ⟨d, rfl⟩
        go_wp2
        go_roundw
        case rel => exact ⟨n + 1, S', by omega, by go_num, HD4.out.fr0 (HG7.out.then d.fr), HF4.out.then ((HG7.out.then d.fr).mono (fun _ _ h => h.elim))⟩
        case measure => simp [intOf]; omega
      · obtain rfl : n = L.length := by omega
        go_wp2_with fail
        refine (live8_any _).mono ?_
        rintro e w5 ⟨rfl, hf5⟩
        go_wp2_with fail
        go_ret
        exact ⟨rfl, hf.then (hf5.mono (fun _ _ h => h.elim))⟩

end Go.Proofs.Ytdlpiaglgdafoaa
