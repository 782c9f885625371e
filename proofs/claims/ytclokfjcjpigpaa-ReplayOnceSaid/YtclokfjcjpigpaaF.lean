/-
  The program's cache: Use.
-/
import Derived.Test.YtclokfjcjpigpaaE
namespace Go.Proofs.Ytclokfjcjpigpaa
open Go.RowKit Go.Maps

/-- What Use answers, and what it leaves. -/
def useR (most : Int) (U : List (PKey × Int)) (K : List (Int × Int)) (x : CredD) (now : Int) : Int × List (PKey × Int) :=
  if x.ok = false then (1, U)
  else if x.until_ ≤ now then (8, U)
  else if revokedP K x = true then (11, U)
  else if (findU (U.filter (fun p => decide (now < p.2))) x.key).isSome = true then (10, U.filter (fun p => decide (now < p.2)))
  else if ((U.filter (fun p => decide (now < p.2))).length : Int) = most then (6, U.filter (fun p => decide (now < p.2)))
  else (0, (x.key, x.until_) :: U.filter (fun p => decide (now < p.2)))

/-- What lies in memory while Use runs. -/
structure Env (w W : World) (x : CredD) (now : Int) (b m1 m2 : Nat) (most : Int) (U : List (PKey × Int)) (K : List (Int × Int)) : Prop where
  cred : Blk W w.heap.size 31 x.cells
  nowb : Blk W (w.heap.size + 1) 3 #[.int .i64 now]
  cache : CacheAt W b m1 m2 most U K
  hB : b < w.heap.size
  h1 : m1 < w.heap.size
  h2 : m2 < w.heap.size
  fr : Fr (fun k => k = m1) w W

theorem Env.start {w : World} {b m1 m2 : Nat} {most : Int} {U : List (PKey × Int)} {K : List (Int × Int)} (h : CacheAt w b m1 m2 most U K) (x : CredD) (now : Int) :
    Env w ((w.alloc (.cells x.cells 31)).alloc (.cells #[.int .i64 now] 3)) x now b m1 m2 most U K where
  cred := (Blk.new w 31 x.cells).alloc _
  nowb := by simpa using Blk.new (w.alloc (.cells x.cells 31)) 3 #[.int .i64 now]
  cache := h.fr (((Fr.refl (fun _ => False) w).alloc _).alloc _) (fun h => h) (fun h => h) (fun h => h)
  hB := h.blk.lt
  h1 := h.until_.lt
  h2 := h.back.lt
  fr := ((Fr.refl _ w).alloc _).alloc _

theorem Env.next {w W W' : World} {x : CredD} {now : Int} {b m1 m2 : Nat} {most : Int} {U : List (PKey × Int)} {K : List (Int × Int)} (h : Env w W x now b m1 m2 most U K) (hf : Fr (fun _ => False) W W') : Env w W' x now b m1 m2 most U K where
  cred := h.cred.fr hf (fun h => h)
  nowb := h.nowb.fr hf (fun h => h)
  cache := h.cache.fr hf (fun h => h) (fun h => h) (fun h => h)
  hB := h.hB
  h1 := h.h1
  h2 := h.h2
  fr := h.fr.trans hf (fun _ _ h => h.elim)

theorem CacheAt.filt {w w1 : World} {b m1 m2 : Nat} {most : Int} {U : List (PKey × Int)} {K : List (Int × Int)} (h : CacheAt w b m1 m2 most U K) {q : PKey × Int → Bool} (hm : MapL Try.prog 60 w1 m1 ((U.filter q).map uP)) (hf : Fr (fun k => k = m1) w w1) :
    CacheAt w1 b m1 m2 most (U.filter q) K where
  blk := h.blk.fr hf (fun e => h.until_.ne_blk h.blk e.symm)
  until_ := hm
  back := h.back.fr hf (fun e => h.ne e.symm)
  ne := h.ne
  wfU := fun p hp => h.wfU p (List.mem_filter.1 hp).1
  wfK := h.wfK
  lenU := by have h1 := h.lenU; have h2 := List.length_filter_le q U; omega
  le64 := h.le64
  lenK := h.lenK

theorem Env.filt {w W W' : World} {x : CredD} {now : Int} {b m1 m2 : Nat} {most : Int} {U : List (PKey × Int)} {K : List (Int × Int)} (h : Env w W x now b m1 m2 most U K) {q : PKey × Int → Bool} (hm : MapL Try.prog 60 W' m1 ((U.filter q).map uP)) (hf : Fr (fun k => k = m1) W W') :
    Env w W' x now b m1 m2 most (U.filter q) K where
  cred := h.cred.fr hf (fun e => by have := h.h1; omega)
  nowb := h.nowb.fr hf (fun e => by have := h.h1; omega)
  cache := h.cache.filt hm hf
  hB := h.hB
  h1 := h.h1
  h2 := h.h2
  fr := h.fr.then hf

theorem findU_mem {U : List (PKey × Int)} {k : PKey} (h : findU U k = none) : ∀ p ∈ U, p.1 ≠ k := by
  unfold findU at h
  simp only [Option.map_eq_none_iff, List.find?_eq_none, beq_iff_eq] at h
  exact fun p hp e => h p hp e

theorem CacheAt.putU {w : World} {b m1 m2 : Nat} {most : Int} {U : List (PKey × Int)} {K : List (Int × Int)} (h : CacheAt w b m1 m2 most U K) {x : CredD} (hx : x.wf) (hn : findU U x.key = none) (hl : (U.length : Int) ≠ most) :
    ∃ w', (Instr.mapUpdate 54 (.map (some m1)) (plVal x.key) (.int .i64 x.until_)).run Try.prog w = .ok () w' ∧ CacheAt w' b m1 m2 most ((x.key, x.until_) :: U) K ∧ Fr (fun k => k = m1) w w' := by
  have hlen := h.lenU
  have h64 := h.le64
  obtain ⟨w', hrun, hm, hg⟩ := h.until_.store law60 Try.underlying54 (by rw [List.length_map]; unfold maxLen; omega) (key60 (CredD.key_wf hx)) (val := .int .i64 x.until_)
  have hf : Fr (fun k => k = m1) w w' := Fr.of_grown hg fun k e => (Option.some.inj e).symm
  refine ⟨w', hrun, ⟨h.blk.fr hf (fun e => h.until_.ne_blk h.blk e.symm), ?_, h.back.fr hf (fun e => h.ne e.symm), h.ne, ?_, h.wfK, by simp only [List.length_cons]; omega, h64, h.lenK⟩, hf⟩
  · rw [List.filter_eq_self.2 (fun p hp => ?_)] at hm
    · exact hm
    · obtain ⟨q, hq, rfl⟩ := List.mem_map.1 hp
      have := findU_mem hn q hq
      simp [uP, same_pl (h.wfU q hq).1 (CredD.key_wf hx), this]
  · intro p hp
    rcases List.mem_cons.1 hp with rfl | hp
    · exact ⟨CredD.key_wf hx, hx.until_⟩
    · exact h.wfU p hp

set_option maxHeartbeats 1000000 in
theorem use18_bad (w : World) (B b m1 m2 : Nat) (most : Int) (U : List (PKey × Int)) (K : List (Int × Int)) (h : CacheAt w b m1 m2 most U K) (x : CredD) (now : Int)
    (hA : Nums w B x.A x.ns) (hB : B ≤ w.heap.size) (hm : x.ns.length ≤ maxLen) (hok : x.ok = false) :
    Calls Try.prog 18 #[.pointer (some ⟨b, 0, none⟩), x.val, .int .i64 now] w fun e w' => e = .returned (.int .i64 1) ∧ CacheAt w' b m1 m2 most U K ∧ Fr (fun k => k = m1) w w' := by
  have E := Env.start h x now
  have hck := (check25_any x B ((w.alloc (.cells x.cells 31)).alloc (.cells #[.int .i64 now] 3)) (by simp; omega) (hA.below ((((Below.refl B w).alloc hB _).alloc (by simp; omega) _))) hm)
  have hc0 : chk x = 1 := by simp [chk, hok]
  rw [hc0] at hck
  clear h hA hc0 hok
  obtain ⟨job, epoch, step, frm, unt, A, c, ns, cores⟩ := x
  simp only [CredD.val, CredD.cells] at *
  have HE := Lib.hid E
  have HC := Lib.hid hck
  clear E hck
  go_enter Try.func18, Try.ntmps18
  go_wp2_with (go_at_call 25; refine HC.out.mono ?_; rintro e w1 ⟨rfl, hb1⟩; have E1 := HE.out.next (Fr.of_below hb1))
  go_ret
  exact ⟨rfl, E1.cache, E1.fr⟩


theorem ok_until {x : CredD} (h : x.ok = true) : 0 ≤ x.until_ ∧ x.until_ ≤ 1099511627776 := by
  simp only [CredD.ok, inR, Bool.and_eq_true, decide_eq_true_eq] at h
  omega

set_option maxHeartbeats 1000000 in
theorem use18_time (w : World) (B b m1 m2 : Nat) (most : Int) (U : List (PKey × Int)) (K : List (Int × Int)) (h : CacheAt w b m1 m2 most U K) (x : CredD) (now : Int)
    (hA : Nums w B x.A x.ns) (hB : B ≤ w.heap.size) (hm : x.ns.length ≤ maxLen) (hok : x.ok = true) (ht : x.until_ ≤ now) :
    Calls Try.prog 18 #[.pointer (some ⟨b, 0, none⟩), x.val, .int .i64 now] w fun e w' => e = .returned (.int .i64 8) ∧ CacheAt w' b m1 m2 most U K ∧ Fr (fun k => k = m1) w w' := by
  have E := Env.start h x now
  have hck := (check25_any x B ((w.alloc (.cells x.cells 31)).alloc (.cells #[.int .i64 now] 3)) (by simp; omega) (hA.below ((((Below.refl B w).alloc hB _).alloc (by simp; omega) _))) hm)
  have hc0 : chk x = 0 := by simp [chk, hok]
  rw [hc0] at hck
  clear h hA hc0 hok
  obtain ⟨job, epoch, step, frm, unt, A, c, ns, cores⟩ := x
  simp only [CredD.val, CredD.cells] at *
  have HE := Lib.hid E
  have HC := Lib.hid hck
  clear E hck
  go_enter Try.func18, Try.ntmps18
  go_wp2_with (go_at_call 25; refine HC.out.mono ?_; rintro e w1 ⟨rfl, hb1⟩; have E1 := HE.out.next (Fr.of_below hb1); have e1 := fun i => E1.cred.cell i; simp only [CredD.cells] at e1; have e2 := E1.nowb.cell 0)
  go_ret
  exact ⟨rfl, E1.cache, E1.fr⟩

set_option maxHeartbeats 1000000 in
theorem use18_revoked (w : World) (B b m1 m2 : Nat) (most : Int) (U : List (PKey × Int)) (K : List (Int × Int)) (h : CacheAt w b m1 m2 most U K) (x : CredD) (hx : x.wf) (now : Int)
    (hA : Nums w B x.A x.ns) (hB : B ≤ w.heap.size) (hm : x.ns.length ≤ maxLen) (hok : x.ok = true) (ht : now < x.until_) (hr : revokedP K x = true) :
    Calls Try.prog 18 #[.pointer (some ⟨b, 0, none⟩), x.val, .int .i64 now] w fun e w' => e = .returned (.int .i64 11) ∧ CacheAt w' b m1 m2 most U K ∧ Fr (fun k => k = m1) w w' := by
  have E := Env.start h x now
  have hck := (check25_any x B ((w.alloc (.cells x.cells 31)).alloc (.cells #[.int .i64 now] 3)) (by simp; omega) (hA.below ((((Below.refl B w).alloc hB _).alloc (by simp; omega) _))) hm)
  have hc0 : chk x = 0 := by simp [chk, hok]
  rw [hc0] at hck
  have hrv := fun W (hc : CacheAt W b m1 m2 most U K) => revoked16_any W b m1 m2 most U K hc x hx
  rw [hr] at hrv
  clear h hA hc0 hok hr hx
  obtain ⟨job, epoch, step, frm, unt, A, c, ns, cores⟩ := x
  simp only [CredD.val, CredD.cells] at *
  have HE := Lib.hid E
  have HC := Lib.hid hck
  have HR := Lib.hid hrv
  clear E hck hrv
  go_enter Try.func18, Try.ntmps18
  go_wp2_with (first
    | (go_at_call 25; refine HC.out.mono ?_; rintro e w1 ⟨rfl, hb1⟩; have E1 := HE.out.next (Fr.of_below hb1); have e1 := fun i => E1.cred.cell i; simp only [CredD.cells] at e1; have e2 := E1.nowb.cell 0)
    | (go_at_call 16; refine (HR.out _ E1.cache).mono ?_; rintro e w2 ⟨rfl, hb2⟩; have E2 := E1.next hb2))
  go_ret
  exact ⟨rfl, E2.cache, E2.fr⟩

end Go.Proofs.Ytclokfjcjpigpaa
