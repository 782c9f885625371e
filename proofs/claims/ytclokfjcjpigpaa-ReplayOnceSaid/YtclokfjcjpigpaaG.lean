/-
  The program's cache: Use, its tail.
-/
import Derived.Test.YtclokfjcjpigpaaF
namespace Go.Proofs.Ytclokfjcjpigpaa
open Go.RowKit Go.Maps

theorem Env.put {w W W' : World} {x : CredD} {now : Int} {b m1 m2 : Nat} {most : Int} {U U' : List (PKey × Int)} {K : List (Int × Int)} (h : Env w W x now b m1 m2 most U K) (hc : CacheAt W' b m1 m2 most U' K) (hf : Fr (fun k => k = m1) W W') :
    Env w W' x now b m1 m2 most U' K where
  cred := h.cred.fr hf (fun e => by have := h.h1; omega)
  nowb := h.nowb.fr hf (fun e => by have := h.h1; omega)
  cache := hc
  hB := h.hB
  h1 := h.h1
  h2 := h.h2
  fr := h.fr.then hf

theorem Env.eight {w W : World} {now : Int} {b m1 m2 : Nat} {most : Int} {U : List (PKey × Int)} {K : List (Int × Int)} {job epoch step frm unt : Int} {A : Option Addr} {c : Nat} {ns : List Int} {cores : Int} (h : Env w W ⟨job, epoch, step, frm, unt, A, c, ns, cores⟩ now b m1 m2 most U K) :
    W.cell? ⟨b, 1, none⟩ = some (.map (some m1)) ∧ W.cell? ⟨w.heap.size, 0, none⟩ = some (.int .i64 job) ∧ W.cell? ⟨w.heap.size, 1, none⟩ = some (.int .i64 epoch) ∧ W.cell? ⟨w.heap.size, 2, none⟩ = some (.int .i64 step) ∧ W.cell? ⟨w.heap.size, 3, none⟩ = some (.int .i64 frm) ∧ W.cell? ⟨w.heap.size, 4, none⟩ = some (.int .i64 unt) ∧ W.cell? ⟨w.heap.size, 5, none⟩ = some (.slice A ns.length c) ∧ W.cell? ⟨w.heap.size, 6, none⟩ = some (.int .i64 cores) :=
  ⟨h.cache.blk.cell 1, h.cred.cell 0, h.cred.cell 1, h.cred.cell 2, h.cred.cell 3, h.cred.cell 4, h.cred.cell 5, h.cred.cell 6⟩

set_option maxHeartbeats 1000000 in
theorem use18_tail (w : World) (B b m1 m2 : Nat) (most : Int) (U : List (PKey × Int)) (K : List (Int × Int)) (h : CacheAt w b m1 m2 most U K) (x : CredD) (hx : x.wf) (now : Int)
    (hA : Nums w B x.A x.ns) (hB : B ≤ w.heap.size) (hm : x.ns.length ≤ maxLen) (hok : x.ok = true) (ht : now < x.until_) (hr : revokedP K x = false) :
    Calls Try.prog 18 #[.pointer (some ⟨b, 0, none⟩), x.val, .int .i64 now] w fun e w' => e = .returned (.int .i64 (useR most U K x now).1) ∧ CacheAt w' b m1 m2 most (useR most U K x now).2 K ∧ Fr (fun k => k = m1) w w' := by
  have E := Env.start h x now
  have hck := (check25_any x B ((w.alloc (.cells x.cells 31)).alloc (.cells #[.int .i64 now] 3)) (by simp; omega) (hA.below ((((Below.refl B w).alloc hB _).alloc (by simp; omega) _))) hm)
  have hc0 : chk x = 0 := by simp [chk, hok]
  rw [hc0] at hck
  have hrv := fun W (hc : CacheAt W b m1 m2 most U K) => revoked16_any W b m1 m2 most U K hc x hx
  rw [hr] at hrv
  have hus : useR most U K x now = if (findU (U.filter (fun p => decide (now < p.2))) x.key).isSome = true then (10, U.filter (fun p => decide (now < p.2)))
      else if ((U.filter (fun p => decide (now < p.2))).length : Int) = most then (6, U.filter (fun p => decide (now < p.2)))
      else (0, (x.key, x.until_) :: U.filter (fun p => decide (now < p.2))) := by
    unfold useR
    rw [if_neg (by simp [hok]), if_neg (by omega), if_neg (by simp [hr])]
  rw [hus]
  have hdl := fun W (hc : MapL Try.prog 60 W m1 (U.map uP)) hn => del26_any U h.wfU m1 (w.heap.size + 1) now W hc hn
  clear h hA hc0 hok hr hus
  have hfl := fun (W W' : World) (e : Env w W x now b m1 m2 most U K) => e.filt (W' := W') (q := fun p => decide (now < p.2))
  generalize U.filter (fun p => decide (now < p.2)) = U1 at *
  have hof := fun W => of_any x W
  have hlk := fun W (hc : CacheAt W b m1 m2 most U1 K) => hc.lookU (CredD.key_wf hx)
  have hln := fun W (hc : CacheAt W b m1 m2 most U1 K) => hc.until_.length Try.underlying54 3
  have hst := fun W (hc : CacheAt W b m1 m2 most U1 K) => hc.putU hx
  simp only [List.length_map] at hln
  obtain ⟨job, epoch, step, frm, unt, A, c, ns, cores⟩ := x
  simp only [CredD.val, CredD.cells, CredD.key] at *
  have HE := Lib.hid E
  have HC := Lib.hid hck
  have HR := Lib.hid hrv
  have HD := Lib.hid hdl
  have HF := Lib.hid hfl
  have HO := Lib.hid hof
  have HL := Lib.hid hlk
  have HN := Lib.hid hln
  have HS := Lib.hid hst
  clear E hck hrv hdl hfl hof hlk hln hst
  by_cases hs : (findU U1 (job, epoch, step)).isSome = true
  · simp only [hs, ↓reduceIte]
    have hl2 := HL.out
    simp only [hs] at hl2
    have HL := Lib.hid hl2
    generalize (findU U1 (job, epoch, step)).getD 0 = u at *
    clear HS hs hl2
    go_enter Try.func18, Try.ntmps18
    go_wp2_with (first
      | (go_at_call 25; refine HC.out.mono ?_; rintro e w1 ⟨rfl, hb1⟩; have E1 := HE.out.next (Fr.of_below hb1); have e1 := fun i => E1.cred.cell i; simp only [CredD.cells] at e1; have e2 := E1.nowb.cell 0)
      | (go_at_call 16; refine (HR.out _ E1.cache).mono ?_; rintro e w2 ⟨rfl, hb2⟩; have E2 := E1.next hb2; clear e1 e2; have e3 := E2.cache.blk.cell 1)
      | (go_at_call 26; refine (HD.out _ E2.cache.until_ E2.nowb).mono ?_; rintro e w3 ⟨rfl, hm3, hf3⟩; have E3 := HF.out _ _ E2 hm3 hf3; clear e3 hm3 hf3; have hz := E3.fr.size))
    go_region_held3 (fun W => W.cell? ⟨b, 1, none⟩ = some (.map (some m1)) ∧ W.cell? ⟨w.heap.size, 0, none⟩ = some (.int .i64 job) ∧ W.cell? ⟨w.heap.size, 1, none⟩ = some (.int .i64 epoch) ∧ W.cell? ⟨w.heap.size, 2, none⟩ = some (.int .i64 step) ∧ W.cell? ⟨w.heap.size, 3, none⟩ = some (.int .i64 frm) ∧ W.cell? ⟨w.heap.size, 4, none⟩ = some (.int .i64 unt) ∧ W.cell? ⟨w.heap.size, 5, none⟩ = some (.slice A ns.length c) ∧ W.cell? ⟨w.heap.size, 6, none⟩ = some (.int .i64 cores))
      (first | exact Env.eight (E3.next (Fr.refl _ _).drew) | exact Env.eight E4)
      (first | (go_at_call 23; refine (HO.out _).mono ?_; rintro e w4 ⟨rfl, hf4⟩; have E4 := E3.next ((Fr.refl _ _).drew.then hf4); have e4 := HL.out w4 E4.cache))
    all_goals (go_wp2; go_ret; exact ⟨rfl, E4.cache, E4.fr⟩)
  · simp only [hs]
    have hn : findU U1 (job, epoch, step) = none := by simpa using hs
    have hl2 := HL.out
    rw [hn] at hl2
    simp only [Option.isSome_none, Option.getD_none] at hl2
    have HL := Lib.hid hl2
    have HS' := Lib.hid (fun W hc => HS.out W hc hn)
    clear hs hl2 HS
    by_cases hfull : (U1.length : Int) = most
    · simp only [hfull, ↓reduceIte]
      have b1 : ((U1.length : Int) == most) = true := by simpa using hfull
      clear HS' hfull hn
      go_enter Try.func18, Try.ntmps18
      go_wp2_with (first
        | (go_at_call 25; refine HC.out.mono ?_; rintro e w1 ⟨rfl, hb1⟩; have E1 := HE.out.next (Fr.of_below hb1); have e1 := fun i => E1.cred.cell i; simp only [CredD.cells] at e1; have e2 := E1.nowb.cell 0)
        | (go_at_call 16; refine (HR.out _ E1.cache).mono ?_; rintro e w2 ⟨rfl, hb2⟩; have E2 := E1.next hb2; clear e1 e2; have e3 := E2.cache.blk.cell 1)
        | (go_at_call 26; refine (HD.out _ E2.cache.until_ E2.nowb).mono ?_; rintro e w3 ⟨rfl, hm3, hf3⟩; have E3 := HF.out _ _ E2 hm3 hf3; clear e3 hm3 hf3; have hz := E3.fr.size))
      go_region_held3 (fun W => W.cell? ⟨b, 1, none⟩ = some (.map (some m1)) ∧ W.cell? ⟨w.heap.size, 0, none⟩ = some (.int .i64 job) ∧ W.cell? ⟨w.heap.size, 1, none⟩ = some (.int .i64 epoch) ∧ W.cell? ⟨w.heap.size, 2, none⟩ = some (.int .i64 step) ∧ W.cell? ⟨w.heap.size, 3, none⟩ = some (.int .i64 frm) ∧ W.cell? ⟨w.heap.size, 4, none⟩ = some (.int .i64 unt) ∧ W.cell? ⟨w.heap.size, 5, none⟩ = some (.slice A ns.length c) ∧ W.cell? ⟨w.heap.size, 6, none⟩ = some (.int .i64 cores))
        (first | exact Env.eight (E3.next (Fr.refl _ _).drew) | exact Env.eight E4)
        (first | (go_at_call 23; refine (HO.out _).mono ?_; rintro e w4 ⟨rfl, hf4⟩; have E4 := E3.next ((Fr.refl _ _).drew.then hf4); have e4 := HL.out w4 E4.cache))
      go_wp2
      have E5 := fun n => E4.next ((Fr.refl _ w4).drewN n)
      have e6 := fun n => HN.out (w4.drewN n) (E5 n).cache
      have e7 := E4.cache.blk.cell 0
      have e8 := E4.cache.blk.cell 1
      clear e4
      go_quiet (fail)
      go_wp2
      go_ret
      exact ⟨rfl, (E5 _).cache, (E5 _).fr⟩
    · simp only [hfull, ↓reduceIte]
      have b1 : ((U1.length : Int) == most) = false := by simpa using hfull
      have HS := Lib.hid (fun W hc => HS'.out W hc hfull)
      clear HS' hfull hn
      go_enter Try.func18, Try.ntmps18
      go_wp2_with (first
        | (go_at_call 25; refine HC.out.mono ?_; rintro e w1 ⟨rfl, hb1⟩; have E1 := HE.out.next (Fr.of_below hb1); have e1 := fun i => E1.cred.cell i; simp only [CredD.cells] at e1; have e2 := E1.nowb.cell 0)
        | (go_at_call 16; refine (HR.out _ E1.cache).mono ?_; rintro e w2 ⟨rfl, hb2⟩; have E2 := E1.next hb2; clear e1 e2; have e3 := E2.cache.blk.cell 1)
        | (go_at_call 26; refine (HD.out _ E2.cache.until_ E2.nowb).mono ?_; rintro e w3 ⟨rfl, hm3, hf3⟩; have E3 := HF.out _ _ E2 hm3 hf3; clear e3 hm3 hf3; have hz := E3.fr.size))
      go_region_held3 (fun W => W.cell? ⟨b, 1, none⟩ = some (.map (some m1)) ∧ W.cell? ⟨w.heap.size, 0, none⟩ = some (.int .i64 job) ∧ W.cell? ⟨w.heap.size, 1, none⟩ = some (.int .i64 epoch) ∧ W.cell? ⟨w.heap.size, 2, none⟩ = some (.int .i64 step) ∧ W.cell? ⟨w.heap.size, 3, none⟩ = some (.int .i64 frm) ∧ W.cell? ⟨w.heap.size, 4, none⟩ = some (.int .i64 unt) ∧ W.cell? ⟨w.heap.size, 5, none⟩ = some (.slice A ns.length c) ∧ W.cell? ⟨w.heap.size, 6, none⟩ = some (.int .i64 cores))
        (first | exact Env.eight (E3.next (Fr.refl _ _).drew) | exact Env.eight E4)
        (first | (go_at_call 23; refine (HO.out _).mono ?_; rintro e w4 ⟨rfl, hf4⟩; have E4 := E3.next ((Fr.refl _ _).drew.then hf4); have e4 := HL.out w4 E4.cache))
      go_wp2
      have E5 := fun n => E4.next ((Fr.refl _ w4).drewN n)
      have e6 := fun n => HN.out (w4.drewN n) (E5 n).cache
      have e7 := E4.cache.blk.cell 0
      have e8 := E4.cache.blk.cell 1
      clear e4
      go_quiet (fail)
      go_wp2
      clear e6 e7 e8
      go_region_held3 (fun W => W.cell? ⟨b, 1, none⟩ = some (.map (some m1)) ∧ W.cell? ⟨w.heap.size, 0, none⟩ = some (.int .i64 job) ∧ W.cell? ⟨w.heap.size, 1, none⟩ = some (.int .i64 epoch) ∧ W.cell? ⟨w.heap.size, 2, none⟩ = some (.int .i64 step) ∧ W.cell? ⟨w.heap.size, 3, none⟩ = some (.int .i64 frm) ∧ W.cell? ⟨w.heap.size, 4, none⟩ = some (.int .i64 unt) ∧ W.cell? ⟨w.heap.size, 5, none⟩ = some (.slice A ns.length c) ∧ W.cell? ⟨w.heap.size, 6, none⟩ = some (.int .i64 cores))
        (first | exact Env.eight ((E5 _).next (Fr.refl _ _).drew) | exact Env.eight E6 | exact Env.eight E7)
        (first | (go_at_call 23; refine (HO.out _).mono ?_; rintro e w6 ⟨rfl, hf6⟩; have E6 := (E5 _).next ((Fr.refl _ _).drew.then hf6); obtain ⟨w7, hrun7, hc7, hf7⟩ := HS.out w6 E6.cache; have E7 := E6.put hc7 hf7))
      go_wp2
      go_ret
      exact ⟨rfl, hc7, E7.fr⟩

/-- Use, whatever it is given. -/
theorem use18_any (w : World) (B b m1 m2 : Nat) (most : Int) (U : List (PKey × Int)) (K : List (Int × Int)) (h : CacheAt w b m1 m2 most U K) (x : CredD) (hx : x.wf) (now : Int)
    (hA : Nums w B x.A x.ns) (hB : B ≤ w.heap.size) (hm : x.ns.length ≤ maxLen) :
    Calls Try.prog 18 #[.pointer (some ⟨b, 0, none⟩), x.val, .int .i64 now] w fun e w' => e = .returned (.int .i64 (useR most U K x now).1) ∧ CacheAt w' b m1 m2 most (useR most U K x now).2 K ∧ Fr (fun k => k = m1) w w' := by
  cases hok : x.ok
  · have e1 : useR most U K x now = (1, U) := by unfold useR; rw [if_pos hok]
    rw [e1]
    exact use18_bad w B b m1 m2 most U K h x now hA hB hm hok
  · by_cases ht : x.until_ ≤ now
    · have e1 : useR most U K x now = (8, U) := by unfold useR; rw [if_neg (by simp [hok]), if_pos ht]
      rw [e1]
      exact use18_time w B b m1 m2 most U K h x now hA hB hm hok ht
    · cases hr : revokedP K x
      · exact use18_tail w B b m1 m2 most U K h x hx now hA hB hm hok (by omega) hr
      · have e1 : useR most U K x now = (11, U) := by unfold useR; rw [if_neg (by simp [hok]), if_neg ht, if_pos hr]
        rw [e1]
        exact use18_revoked w B b m1 m2 most U K h x hx now hA hB hm hok (by omega) hr

set_option maxHeartbeats 400000 in
theorem use18_nil (w : World) (x : CredD) (now : Int) :
    Calls Try.prog 18 #[.pointer none, x.val, .int .i64 now] w fun e w' => e = .returned (.int .i64 1) ∧ Fr (fun _ => False) w w' := by
  obtain ⟨job, epoch, step, frm, unt, A, c, ns, cores⟩ := x
  simp only [CredD.val]
  go_enter Try.func18, Try.ntmps18
  go_wp2
  go_ret
  exact ⟨rfl, ((Fr.refl _ w).alloc _).alloc _⟩

set_option maxHeartbeats 400000 in
theorem revoke19_nil (w : World) (job epoch : Int) :
    Calls Try.prog 19 #[.pointer none, .int .i64 job, .int .i64 epoch] w fun e w' => e = .returned (.int .i64 1) ∧ Fr (fun _ => False) w w' := by
  go_enter Try.func19, Try.ntmps19
  go_wp2
  go_ret
  exact ⟨rfl, Fr.refl _ w⟩

end Go.Proofs.Ytclokfjcjpigpaa
