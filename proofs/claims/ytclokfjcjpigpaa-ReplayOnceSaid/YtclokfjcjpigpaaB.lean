/-
  The reference's check of a credential comes to the same as the program's.
-/
import Derived.Test.YtclokfjcjpigpaaA
import Derived.Deep.LoopGhost
namespace Go.Proofs.Ytclokfjcjpigpaa
open Go.RowKit

theorem nodesFrom_len : ∀ (ns : List Int) (last : Int), nodesFrom last ns = true → -1 ≤ last → (ns.length : Int) + last ≤ 15 ∨ ns = [] := by
  intro ns
  induction ns with
  | nil => intro last _ _; right; rfl
  | cons n r ih =>
    intro last h hl
    unfold nodesFrom at h
    split at h
    · cases h
    · rename_i hc
      left
      rcases ih n h (by omega) with h1 | h1
      · simp; omega
      · subst h1; simp; omega

theorem nodesOk_len (ns : List Int) (h : nodesOk ns = true) : 0 < ns.length ∧ ns.length ≤ 16 := by
  simp only [nodesOk, Bool.and_eq_true, decide_eq_true_eq] at h
  refine ⟨h.2, ?_⟩
  rcases nodesFrom_len ns (-1) h.1 (by omega) with h1 | h1
  · omega
  · subst h1; simp

def CredD.head (x : CredD) : Bool := inR x.job 0 1099511627776 && inR x.step 0 1099511627776 && inR x.frm 0 1099511627776 && inR x.until_ 0 1099511627776 && inR x.epoch 0 8 && inR x.cores 1 256 && decide (0 < x.ns.length) && decide (x.ns.length ≤ 16)

theorem chk_of_head_false (x : CredD) (h : x.head = false) : chk x = 1 := by
  by_cases hn : nodesOk x.ns = true
  · have := nodesOk_len _ hn
    simp only [CredD.head, this.1, this.2, decide_true, Bool.and_true] at h
    simp [chk, CredD.ok, h]
  · simp only [Bool.not_eq_true] at hn
    simp [chk, CredD.ok, hn]
theorem chk_of_head (x : CredD) (h : x.head = true) : chk x = if nodesOk x.ns then 0 else 1 := by
  simp only [CredD.head, Bool.and_eq_true] at h
  simp [chk, CredD.ok, h]

set_option maxHeartbeats 2000000 in
theorem check20_no (x : CredD) (w : World) (hm : x.ns.length ≤ maxLen) (hh : x.head = false) :
    Calls Try.prog 20 #[x.val] w fun e w' => e = .returned (.int .i64 1) ∧ Below w.heap.size w w' := by
  obtain ⟨job, epoch, step, frm, unt, A, c, ns, cores⟩ := x
  simp only [CredD.val]
  simp only at hm
  unfold maxLen at hm
  have H := Lib.hid hh
  clear hh
  go_enter Try.func20, Try.ntmps20
  go_wp2_with (go_at_call 28; refine (num28_any _ _).mono ?_; rintro e w' ⟨rfl, rfl⟩)
  all_goals first
    | (exfalso; have h := H.out; clear H; simp only [CredD.head, inR, Bool.and_eq_true, Bool.and_eq_false_iff, decide_eq_true_eq, decide_eq_false_iff_not] at *; omega)
    | (go_ret; exact ⟨rfl, (Below.refl _ _).alloc (Nat.le_refl _) _⟩)

theorem nodes_no' {ns : List Int} {k : Nat} (h : nodesFrom (-1) ns = nodesFrom (if k = 0 then -1 else ns.getD (k - 1) 0) (ns.drop k)) (hk : k < ns.length)
    (hc : ns.getD k 0 < 0 ∨ 15 < ns.getD k 0 ∨ (0 < k ∧ ns.getD k 0 ≤ ns.getD (k - 1) 0)) (hl : ¬ k = 0 → -1 ≤ ns.getD (k - 1) 0) : nodesOk ns = false := by
  refine nodes_no h hk ?_
  by_cases h0 : k = 0
  · rw [if_pos h0]; omega
  · have := hl h0
    rw [if_neg h0]; omega

theorem nodes_go' {ns : List Int} {k : Nat} (h : nodesFrom (-1) ns = nodesFrom (if k = 0 then -1 else ns.getD (k - 1) 0) (ns.drop k)) (hk : k < ns.length)
    (h1 : 0 ≤ ns.getD k 0) (h2 : ns.getD k 0 ≤ 15) (h3 : ¬ k = 0 → ns.getD (k - 1) 0 < ns.getD k 0) :
    nodesFrom (-1) ns = nodesFrom (if k + 1 = 0 then -1 else ns.getD (k + 1 - 1) 0) (ns.drop (k + 1)) := by
  rw [if_neg (by omega), Nat.add_sub_cancel]
  refine nodes_go h hk ?_ (by omega)
  by_cases h0 : k = 0
  · rw [if_pos h0]; omega
  · rw [if_neg h0]; exact h3 h0

set_option maxHeartbeats 4000000 in
theorem check20_yes (x : CredD) (B : Nat) (w : World) (hB : B ≤ w.heap.size) (hA : Nums w B x.A x.ns) (hh : x.head = true) (r : Int) (hr : Hid (r = if nodesOk x.ns then 0 else 1)) :
    Calls Try.prog 20 #[x.val] w fun e w' => e = .returned (.int .i64 r) ∧ Below w.heap.size w w' := by
  obtain ⟨job, epoch, step, frm, unt, A, c, ns, cores⟩ := x
  simp only [CredD.val]
  simp only at hA
  simp only [CredD.head, inR, Bool.and_eq_true, decide_eq_true_eq] at hh
  obtain ⟨⟨⟨⟨⟨⟨⟨⟨h11, h12⟩, ⟨h21, h22⟩⟩, ⟨h31, h32⟩⟩, ⟨h41, h42⟩⟩, ⟨h51, h52⟩⟩, ⟨h61, h62⟩⟩, h7⟩, h8⟩ := hh
  have hA' := hA.below ((Below.refl B w).alloc hB (.cells #[.int .i64 job, .int .i64 epoch, .int .i64 step, .int .i64 frm, .int .i64 unt, .slice A ns.length c, .int .i64 cores] 31))
  have HA := Lib.hid hA'
  clear hA hA'
  go_enter Try.func20, Try.ntmps20
  go_wp2
  clear h11 h12 h21 h22 h31 h32 h41 h42 h51 h52 h61 h62
  go_loopw [3] (fun i wr => ∃ (k : Nat), k ≤ ns.length ∧ i = .int .i64 k ∧ (¬ k = 0 → -1 ≤ ns.getD (k - 1) 0) ∧ Hid (nodesFrom (-1) ns = nodesFrom (if k = 0 then -1 else ns.getD (k - 1) 0) (ns.drop k))
      ∧ Hid (∀ a, wr.cell? a = (w.alloc (.cells #[.int .i64 job, .int .i64 epoch, .int .i64 step, .int .i64 frm, .int .i64 unt, .slice A ns.length c, .int .i64 cores] 31)).cell? a) ∧ Below w.heap.size w wr) (fun i _ => ns.length - (intOf i).toNat)
  case atStart => exact ⟨0, Nat.zero_le _, rfl, fun h => absurd rfl h, rfl, fun _ => rfl, (Below.refl _ _).alloc (Nat.le_refl _) _⟩
  case round =>
    obtain ⟨k, hk, rfl, hl, hh, hw, hbl⟩ := hrel
    have hc5 : wr.cell? ⟨w.heap.size, 5, none⟩ = some (.slice A ns.length c) := by rw [hw.out]; simp
    by_cases hlt : k < ns.length
    · obtain ⟨ad, rfl, _, hc⟩ := HA.out k hlt
      rw [← hw.out] at hc
      obtain ⟨g, hg⟩ : ∃ g, g = ns.getD k 0 := ⟨_, rfl⟩
      rw [← hg] at hc
      have Hg := Lib.hid hg
      clear hg
      obtain ⟨p, hp⟩ : ∃ p, p = ns.getD (k - 1) 0 := ⟨_, rfl⟩
      have Hp := Lib.hid hp
      clear hp
      by_cases c1 : g < 0
      · have b1 : decide (g < 0) = true := by simpa using c1
        go_wp2
        go_quiet (fail)
        go_wp2
        go_ret
        refine ⟨?_, below_drewN hbl _⟩
        rw [hr.out, nodes_no' hh.out hlt (Or.inl (by rw [← Hg.out]; exact c1)) hl]
        rfl
      have b1 : decide (g < 0) = false := by simpa using c1
      by_cases c2 : 15 < g
      · have b2 : decide (15 < g) = true := by simpa using c2
        go_wp2
        go_quiet (fail)
        go_wp2
        go_ret
        refine ⟨?_, below_drewN hbl _⟩
        rw [hr.out, nodes_no' hh.out hlt (Or.inr (Or.inl (by rw [← Hg.out]; exact c2))) hl]
        rfl
      have b2 : decide (15 < g) = false := by simpa using c2
      by_cases c3 : 0 < k
      · have b3 : decide (0 < k) = true := by simpa using c3
        obtain ⟨ad', e, _, hc2⟩ := HA.out (k - 1) (by omega)
        cases e
        rw [← hw.out, ← Hp.out] at hc2
        by_cases c4 : g ≤ p
        · have b4 : decide (g ≤ p) = true := by simpa using c4
          go_wp2
          go_quiet (fail)
          go_wp2
          go_ret
          refine ⟨?_, below_drewN hbl _⟩
          rw [hr.out, nodes_no' hh.out hlt (Or.inr (Or.inr (by rw [← Hg.out, ← Hp.out]; exact ⟨c3, c4⟩))) hl]
          rfl
        · have b4 : decide (g ≤ p) = false := by simpa using c4
          go_wp2
          go_quiet (fail)
          go_wp2
          go_roundw
          case rel => exact ⟨k + 1, by omega, by go_num, fun _ => by rw [Nat.add_sub_cancel, ← Hg.out]; omega, nodes_go' hh.out hlt (by rw [← Hg.out]; omega) (by rw [← Hg.out]; omega) (fun _ => by rw [← Hg.out, ← Hp.out]; omega), fun a => hw.out a, below_drewN hbl _⟩
          case measure => simp [intOf]; omega
      · have b3 : decide (0 < k) = false := by simpa using c3
        go_wp2
        go_quiet (fail)
        go_wp2
        go_roundw
        case rel => exact ⟨k + 1, by omega, by go_num, fun _ => by rw [Nat.add_sub_cancel, ← Hg.out]; omega, nodes_go' hh.out hlt (by rw [← Hg.out]; omega) (by rw [← Hg.out]; omega) (fun _ => by omega), fun a => hw.out a, below_drewN hbl _⟩
        case measure => simp [intOf]; omega
    · obtain rfl : k = ns.length := by omega
      go_wp2
      go_ret
      refine ⟨?_, hbl⟩
      rw [hr.out, nodes_end hh.out]
      simp [h7]


theorem check20_any (x : CredD) (B : Nat) (w : World) (hB : B ≤ w.heap.size) (hA : Nums w B x.A x.ns) (hm : x.ns.length ≤ maxLen) :
    Calls Try.prog 20 #[x.val] w fun e w' => e = .returned (.int .i64 (chk x)) ∧ Below w.heap.size w w' := by
  cases hh : x.head
  · exact (check20_no x w hm hh).mono fun e w' ⟨h1, h2⟩ => ⟨by rw [h1, chk_of_head_false x hh], h2⟩
  · exact check20_yes x B w hB hA hh _ (chk_of_head x hh)

end Go.Proofs.Ytclokfjcjpigpaa
