/-
  The queue: At, Next; a queue that is none.
-/
import Derived.Test.YtdlpiaglgdafoaaTi
import Derived.OwnWalk
namespace Go.Proofs.Ytdlpiaglgdafoaa
open Go.RowKit Go.Maps

theorem atK_mem {S : List KeyD} : (S.map (·.2)).Nodup → ∀ {p : KeyD}, p ∈ S → atK p.2 S = some p.1 := by
  induction S with
  | nil => intro _ p hp; cases hp
  | cons a r ih =>
    intro hn p hp
    rw [List.map_cons, List.nodup_cons] at hn
    unfold atK
    rw [List.find?_cons]
    by_cases e : a.2 = p.2
    · have : p = a := by
        rcases List.mem_cons.1 hp with rfl | hp
        · rfl
        · exact absurd (by rw [e]; exact List.mem_map_of_mem hp) hn.1
      subst this
      simp
    · have : (a.2 == p.2) = false := by simpa using e
      simp only [this]
      rcases List.mem_cons.1 hp with rfl | hp
      · exact absurd rfl e
      · exact ih hn.2 hp
theorem atK_none {S : List KeyD} {id : Int} (h : ∀ p ∈ S, p.2 ≠ id) : atK id S = none := by
  unfold atK
  rw [List.find?_eq_none.2 fun p hp => by simpa using h p hp]
  rfl
theorem atK_has (id : Int) (S : List KeyD) : (atK id S).isSome = hasK id S := by
  unfold atK hasK
  rw [Option.isSome_map]
  cases h : S.any fun p => p.2 == id with
  | true =>
    rw [List.find?_isSome]
    obtain ⟨x, hx, hp⟩ := List.any_eq_true.1 h
    exact ⟨x, hx, hp⟩
  | false =>
    rw [List.any_eq_false] at h
    rw [List.find?_eq_none.2 h]
    rfl

set_option maxHeartbeats 1000000 in
theorem at16_any (w : World) (q : Nat) (S : List KeyD) (X : Nat → Prop) (h : TQ w q S X) (id : Int) (hid : wf64 id) :
    Calls Try.prog 16 #[.pointer (some ⟨q, 0, none⟩), .int .i64 id] w fun e w' => e = .returned (.tuple #[.int .i64 ((atK id S).getD 0), .bool (atK id S).isSome]) ∧ w = w' := by
  obtain ⟨m, L, v, h, hp, ho, rfl⟩ := h
  have c1 := h.c1
  rcases h.look hid false with ⟨k, hk, e1, h2⟩ | ⟨h1, h2⟩
  · have hb := h.heap.ent k hk
    have e2 : atK id S = some (L[k]'hk).2.1 := by
      rw [← e1]
      exact atK_mem ho.ids (hp.mem_iff.1 (List.mem_map_of_mem (List.getElem_mem hk)))
    rw [e2]
    simp only [encE, Bool.false_eq_true, if_false] at h2
    generalize L[k] = x at *
    have b0 := hb.cell 0
    clear h hp ho hb e1 e2
    go_enter Try.func16, Try.ntmps16
    go_wp2
    go_ret2
    exact ⟨rfl, rfl⟩
  · have e2 : atK id S = none := atK_none fun p hp' e => by
      obtain ⟨x, hx, rfl⟩ := List.mem_map.1 (hp.mem_iff.2 hp')
      exact h1 x hx e
    rw [e2]
    simp only [Bool.false_eq_true, if_false] at h2
    clear h hp ho e2 h1
    go_enter Try.func16, Try.ntmps16
    go_wp2
    go_ret2
    exact ⟨rfl, rfl⟩

def nextK : List KeyD → Int × Int × Bool
  | [] => (0, 0, false)
  | p :: _ => (p.2, p.1, true)

set_option maxHeartbeats 1000000 in
theorem next13_any (w : World) (q : Nat) (S : List KeyD) (X : Nat → Prop) (h : TQ w q S X) :
    Calls Try.prog 13 #[.pointer (some ⟨q, 0, none⟩)] w fun e w' => e = .returned (.tuple #[.int .i64 (nextK S).1, .int .i64 (nextK S).2.1, .bool (nextK S).2.2]) ∧ Fr (fun _ => False) w w' := by
  have HL := Lib.hid (len14_any w q S X h)
  obtain ⟨m, L, v, h, hp, ho, rfl⟩ := h
  have hle := hp.length_eq
  rw [List.length_map] at hle
  cases S with
  | nil =>
    simp only [nextK]
    clear h hp ho
    go_enter Try.func13, Try.ntmps13
    go_wp2_with fail
    refine (HL.out).mono ?_
    rintro e w1 ⟨rfl, rfl⟩
    go_wp2
    go_ret3
    exact ⟨rfl, Fr.refl _ _⟩
  | cons p r =>
    have h0 : 0 < L.length := by rw [hle, List.length_cons]; omega
    have hx : L[0]? = some (L[0]'h0) := List.getElem?_eq_getElem h0
    have he := head_eq h.hN hx hp ho.srt
    obtain ⟨g, cap, rfl, c2⟩ := h.heap.elem h0
    have c0 := h.c0
    have hb := h.heap.ent 0 h0
    have hl : L.length ≤ 256 := by rw [hle]; exact ho.le
    simp only [nextK]
    rw [← he]
    generalize L[0] = x at *
    have b0 := hb.cell 0
    have b1 := hb.cell 1
    have l0 := Later.cell c0
    have l2 := Later.cell c2
    have l3 := Later.cell b0
    have l4 := Later.cell b1
    clear h hb c0 c2 b0 b1 hp ho hx he
    go_enter Try.func13, Try.ntmps13
    go_wp2_with fail
    refine (HL.out).mono ?_
    rintro e w1 ⟨rfl, rfl⟩
    have n1 : ((((p :: r).length : Nat) : Int) == 0) = false := by simp; omega
    go_wp2_with fail
    refine wp_region_later w (by kernel_rfl) (by kernel_rfl) (Fr.refl _ _) ?_
    repeat (go_big_quiet_step (fail))
    refine wpQuiet_nil ?_
    rintro _ ⟨d, rfl⟩
    go_wp2
    go_ret3
    exact ⟨rfl, d.fr⟩

theorem at16_nil (w : World) (id : Int) : Calls Try.prog 16 #[.pointer none, .int .i64 id] w fun e w' => e = .returned (.tuple #[.int .i64 0, .bool false]) ∧ w = w' := by
  go_enter Try.func16, Try.ntmps16
  go_wp2
  go_ret2
  exact ⟨rfl, rfl⟩
theorem len14_nil (w : World) : Calls Try.prog 14 #[.pointer none] w fun e w' => e = .returned (.int .i64 0) ∧ w = w' := by
  go_enter Try.func14, Try.ntmps14
  go_wp2
  go_ret
  exact ⟨rfl, rfl⟩
theorem next13_nil (w : World) : Calls Try.prog 13 #[.pointer none] w fun e w' => e = .returned (.tuple #[.int .i64 0, .int .i64 0, .bool false]) ∧ w = w' := by
  go_enter Try.func13, Try.ntmps13
  go_wp2_with fail
  refine (len14_nil w).mono ?_
  rintro e w1 ⟨rfl, rfl⟩
  go_wp2
  go_ret3
  exact ⟨rfl, rfl⟩
theorem cancel12_nil (w : World) (id : Int) : Calls Try.prog 12 #[.pointer none, .int .i64 id] w fun e w' => e = .returned (.bool false) ∧ w = w' := by
  go_enter Try.func12, Try.ntmps12
  go_wp2
  go_ret
  exact ⟨rfl, rfl⟩
theorem set10_nil (w : World) (id at_ : Int) : Calls Try.prog 10 #[.pointer none, .int .i64 id, .int .i64 at_] w fun e w' => e = .returned (.int .i64 1) ∧ w = w' := by
  go_enter Try.func10, Try.ntmps10
  go_wp2
  go_ret
  exact ⟨rfl, rfl⟩
theorem due11_nil (w : World) (now : Int) : Calls Try.prog 11 #[.pointer none, .int .i64 now] w fun e w' => e = .returned (.slice none 0 0) ∧ w = w' := by
  go_enter Try.func11, Try.ntmps11
  go_wp2_with fail
  go_loopw [5] (fun i wr => i = .slice none 0 0 ∧ w = wr) (fun _ _ => 0)
  case atStart => exact ⟨rfl, rfl⟩
  case round =>
    obtain ⟨rfl, rfl⟩ := hrel
    go_wp2_with fail
    refine (len14_nil w).mono ?_
    rintro e w1 ⟨rfl, rfl⟩
    go_wp2
    go_ret
    exact ⟨rfl, rfl⟩

end Go.Proofs.Ytdlpiaglgdafoaa
