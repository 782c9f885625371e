/-
  'does': one step of a script at both caches.
-/
import Derived.Test.YtclokfjcjpigpaaX
namespace Go.Proofs.Ytclokfjcjpigpaa
open Go.RowKit Go.Maps

/-- Both caches stand above block B and agree. -/
structure Stt (w : World) (B b m1 m2 r : Nat) (most : Int) : Prop where
  ex : ∃ U K L M lv bv, CacheAt w b m1 m2 most U K ∧ RefAt w B r most L M lv bv ∧ Sim U K L M
  h1 : B ≤ m1
  h2 : B ≤ m2
  size : B ≤ w.heap.size

section
variable {w w' : World} {B b m1 m2 r : Nat} {most : Int}

theorem Stt.fr (h : Stt w B b m1 m2 r most) (hf : Fr (fun _ => False) w w') : Stt w' B b m1 m2 r most := by
  obtain ⟨U, K, L, M, lv, bv, hc, hr, hs⟩ := h.ex
  exact ⟨⟨U, K, L, M, lv, bv, hc.fr hf (fun h => h) (fun h => h) (fun h => h), hr.fr hf (fun _ h => h.elim), hs⟩, h.h1, h.h2, Nat.le_trans h.size hf.size⟩

theorem ref_off {U : List (PKey × Int)} {K M : List (Int × Int)} {L : List CredD} {lv bv : Value} (hc : CacheAt w b m1 m2 most U K) (hr : RefAt w B r most L M lv bv) : b ≠ r ∧ m1 ≠ r ∧ m2 ≠ r := by
  refine ⟨?_, hc.until_.ne_blk hr.blk, hc.back.ne_blk hr.blk⟩
  rintro rfl
  exact absurd (hc.blk.uniq hr.blk).1 (by decide)

theorem Stt.use (h : Stt w B b m1 m2 r most) (x : CredD) (hx : x.wf) (now : Int) (hA : Nums w B x.A x.ns) (hm : x.ns.length ≤ maxLen) :
    ∃ ans : Int, (Calls Try.prog 18 #[.pointer (some ⟨b, 0, none⟩), x.val, .int .i64 now] w fun e w1 => e = .returned (.int .i64 ans) ∧ Fr (fun k => k = m1) w w1 ∧
      ∀ W, Fr (fun _ => False) w1 W → Calls Try.prog 21 #[.pointer (some ⟨r, 0, none⟩), x.val, .int .i64 now] W fun e w2 => e = .returned (.int .i64 ans) ∧ Stt w2 B b m1 m2 r most ∧ Fr (fun k => k = r) W w2) := by
  obtain ⟨U, K, L, M, lv, bv, hc, hr, hs⟩ := h.ex
  obtain ⟨hu, hs2⟩ := hs.use most x now
  refine ⟨(useR most U K x now).1, (use18_any w B b m1 m2 most U K hc x hx now hA h.size hm).mono ?_⟩
  rintro e w1 ⟨rfl, hc1, hf1⟩
  refine ⟨rfl, hf1, fun W hW => ?_⟩
  have hr1 := hr.fr hf1 (fun k hk cs t f => by subst hk; exact hc.until_.no_cells)
  have hrW := hr1.fr hW (fun _ h => h.elim)
  have hcW := hc1.fr hW (fun h => h) (fun h => h) (fun h => h)
  have hfW : Fr (fun k => k = m1) w W := hf1.trans hW (fun _ _ h => h.elim)
  have hAW := hA.below (hfW.below h.size (fun i hi => by subst hi; exact h.h1))
  have hsz := Nat.le_trans h.size hfW.size
  have hl1 : (U.length : Int) ≤ 64 := Int.le_trans hc.lenU hc.le64
  have hl2 := hs.len
  have hl3 := hs.lenK
  have hl4 := hc.lenK
  refine (use21_any W B B r most L M lv bv hrW (by omega) (by omega) hsz x now hAW hsz hm).mono ?_
  rintro e w2 ⟨rfl, ⟨lv', hr2⟩, hf2⟩
  obtain ⟨n1, n2, n3⟩ := ref_off hc hr
  exact ⟨by rw [hu], ⟨⟨_, _, _, _, lv', bv, hcW.fr hf2 n1 n2 n3, hr2, hs2⟩, h.h1, h.h2, Nat.le_trans hsz hf2.size⟩, hf2⟩

theorem Stt.revoke (h : Stt w B b m1 m2 r most) (job epoch : Int) :
    ∃ ans : Int, (Calls Try.prog 19 #[.pointer (some ⟨b, 0, none⟩), .int .i64 job, .int .i64 epoch] w fun e w1 => e = .returned (.int .i64 ans) ∧ Fr (fun k => k = m2) w w1 ∧
      ∀ W, Fr (fun _ => False) w1 W → Calls Try.prog 22 #[.pointer (some ⟨r, 0, none⟩), .int .i64 job, .int .i64 epoch] W fun e w2 => e = .returned (.int .i64 ans) ∧ Stt w2 B b m1 m2 r most ∧ Fr (fun k => k = r) W w2) := by
  obtain ⟨U, K, L, M, lv, bv, hc, hr, hs⟩ := h.ex
  obtain ⟨hu, hs2⟩ := hs.revoke job epoch
  refine ⟨(revokeR K job epoch).1, (revoke19_any w b m1 m2 most U K hc job epoch).mono ?_⟩
  rintro e w1 ⟨rfl, hc1, hf1⟩
  refine ⟨rfl, hf1, fun W hW => ?_⟩
  have hr1 := hr.fr hf1 (fun k hk cs t f => by subst hk; exact hc.back.no_cells)
  have hrW := hr1.fr hW (fun _ h => h.elim)
  have hcW := hc1.fr hW (fun h => h) (fun h => h) (fun h => h)
  have hfW : Fr (fun k => k = m2) w W := hf1.trans hW (fun _ _ h => h.elim)
  have hsz := Nat.le_trans h.size hfW.size
  have hl3 := hs.lenK
  have hl4 := hc.lenK
  refine (revoke22_any W B r most L M lv bv hrW (by omega) hsz job epoch).mono ?_
  rintro e w2 ⟨rfl, ⟨bv', hr2⟩, hf2⟩
  obtain ⟨n1, n2, n3⟩ := ref_off hc hr
  exact ⟨by rw [hu], ⟨⟨_, _, _, _, lv, bv', hcW.fr hf2 n1 n2 n3, hr2, hs2⟩, h.h1, h.h2, Nat.le_trans hsz hf2.size⟩, hf2⟩

/-- The blocks that a step may change. -/
def Mine (m1 m2 r : Nat) (k : Nat) : Prop := k = m1 ∨ k = m2 ∨ k = r

theorem Stt.off (h : Stt w B b m1 m2 r most) : m1 < w.heap.size ∧ m2 < w.heap.size ∧ r < w.heap.size := by
  obtain ⟨U, K, L, M, lv, bv, hc, hr, hs⟩ := h.ex
  exact ⟨hc.until_.lt, hc.back.lt, hr.blk.lt⟩
end

theorem op8 {W : World} {g : Nat} {d job epoch step frm unt : Int} {A : Option Addr} {ns : List Int} {c : Nat} {cores now j2 e2 : Int}
    (h : Blk W g 33 #[.int .i64 d, .int .i64 job, .int .i64 epoch, .int .i64 step, .int .i64 frm, .int .i64 unt, .slice A ns.length c, .int .i64 cores, .int .i64 now, .int .i64 j2, .int .i64 e2]) :
    W.cell? ⟨g, 1, none⟩ = some (.int .i64 job) ∧ W.cell? ⟨g, 2, none⟩ = some (.int .i64 epoch) ∧ W.cell? ⟨g, 3, none⟩ = some (.int .i64 step) ∧ W.cell? ⟨g, 4, none⟩ = some (.int .i64 frm) ∧ W.cell? ⟨g, 5, none⟩ = some (.int .i64 unt) ∧ W.cell? ⟨g, 6, none⟩ = some (.slice A ns.length c) ∧ W.cell? ⟨g, 7, none⟩ = some (.int .i64 cores) ∧ W.cell? ⟨g, 8, none⟩ = some (.int .i64 now) :=
  ⟨h.cell 1, h.cell 2, h.cell 3, h.cell 4, h.cell 5, h.cell 6, h.cell 7, h.cell 8⟩

theorem op2 {W : World} {g : Nat} {d job epoch step frm unt : Int} {A : Option Addr} {ns : List Int} {c : Nat} {cores now j2 e2 : Int}
    (h : Blk W g 33 #[.int .i64 d, .int .i64 job, .int .i64 epoch, .int .i64 step, .int .i64 frm, .int .i64 unt, .slice A ns.length c, .int .i64 cores, .int .i64 now, .int .i64 j2, .int .i64 e2]) :
    W.cell? ⟨g, 9, none⟩ = some (.int .i64 j2) ∧ W.cell? ⟨g, 10, none⟩ = some (.int .i64 e2) :=
  ⟨h.cell 9, h.cell 10⟩

set_option maxHeartbeats 1000000 in
theorem does12_any (w : World) (B b m1 m2 r : Nat) (most : Int) (h : Stt w B b m1 m2 r most) (o : OpD) (hx : o.c.wf) (hA : Nums w B o.c.A o.c.ns) (hm : o.c.ns.length ≤ maxLen) :
    Calls Try.prog 12 #[.pointer (some ⟨b, 0, none⟩), .pointer (some ⟨r, 0, none⟩), o.val] w fun e w' => e = .returned (.bool true) ∧ Stt w' B b m1 m2 r most ∧ Fr (Mine m1 m2 r) w w' := by
  obtain ⟨hz1, hz2, hz3⟩ := h.off
  have hF0 : Fr (fun _ => False) w (w.alloc (.cells o.cells 33)) := (Fr.refl _ w).alloc _
  have hF := hF0.drew
  have H1 := h.fr hF
  have HB0 := Blk.new w 33 o.cells
  have HB := HB0.fr (Fr.refl (fun _ => False) _).drew (fun h => h)
  have HA := hA.below (hF.below h.size (fun _ h => h.elim))
  obtain ⟨a1, hU⟩ := H1.use o.c hx o.now HA hm
  obtain ⟨a2, hR⟩ := H1.revoke o.job o.epoch
  have H0 := HB0.cell 0
  obtain ⟨d, ⟨job, epoch, step, frm, unt, A, c, ns, cores⟩, now, j2, e2⟩ := o
  simp only [OpD.val, OpD.cells, CredD.val] at *
  simp at H0
  have HU := Lib.hid hU
  have HR := Lib.hid hR
  have HK := Lib.hid HB
  have HS := Lib.hid H1
  have HFF := Lib.hid hF
  have HF0 := Lib.hid hF0
  have HS0 := Lib.hid (h.fr hF0)
  clear hU hR HB HB0 H1 hF hF0 HA hA hx h
  by_cases h0 : d = 0
  · subst h0
    go_enter Try.func12, Try.ntmps12
    go_wp2
    go_region_held3 (fun W => W.cell? ⟨w.heap.size, 1, none⟩ = some (.int .i64 job) ∧ W.cell? ⟨w.heap.size, 2, none⟩ = some (.int .i64 epoch) ∧ W.cell? ⟨w.heap.size, 3, none⟩ = some (.int .i64 step) ∧ W.cell? ⟨w.heap.size, 4, none⟩ = some (.int .i64 frm) ∧ W.cell? ⟨w.heap.size, 5, none⟩ = some (.int .i64 unt) ∧ W.cell? ⟨w.heap.size, 6, none⟩ = some (.slice A ns.length c) ∧ W.cell? ⟨w.heap.size, 7, none⟩ = some (.int .i64 cores) ∧ W.cell? ⟨w.heap.size, 8, none⟩ = some (.int .i64 now))
      (first | exact op8 HK.out | exact op8 HK1.out | exact op8 HK2.out)
      (first | (go_at_call 18; refine HU.out.mono ?_; rintro e w1 ⟨rfl, hf1, hN⟩; have HK1 := Lib.hid (HK.out.fr hf1 (Nat.ne_of_gt hz1))) | (go_at_call 21; refine (hN _ (Fr.refl _ _)).mono ?_; rintro e w2 ⟨rfl, hs2, hf2⟩; have HK2 := Lib.hid (HK1.out.fr hf2 (Nat.ne_of_gt hz3))))
    go_wp2
    go_ret
    exact ⟨rfl, hs2, ((HFF.out.mono (fun _ _ h => h.elim)).trans (hf1.mono (S' := Mine m1 m2 r) (fun _ _ h => Or.inl h)) (fun _ _ h => h)).trans hf2 (fun _ _ h => Or.inr (Or.inr h))⟩
  · by_cases h1 : d = 1
    · subst h1
      go_enter Try.func12, Try.ntmps12
      go_wp2
      go_region_held3 (fun W => W.cell? ⟨w.heap.size, 9, none⟩ = some (.int .i64 j2) ∧ W.cell? ⟨w.heap.size, 10, none⟩ = some (.int .i64 e2))
        (first | exact op2 HK.out | exact op2 HK1.out | exact op2 HK2.out)
        (first | (go_at_call 19; refine HR.out.mono ?_; rintro e w1 ⟨rfl, hf1, hN⟩; have HK1 := Lib.hid (HK.out.fr hf1 (Nat.ne_of_gt hz2))) | (go_at_call 22; refine (hN _ (Fr.refl _ _)).mono ?_; rintro e w2 ⟨rfl, hs2, hf2⟩; have HK2 := Lib.hid (HK1.out.fr hf2 (Nat.ne_of_gt hz3))))
      go_wp2
      go_ret
      exact ⟨rfl, hs2, ((HFF.out.mono (fun _ _ h => h.elim)).trans (hf1.mono (S' := Mine m1 m2 r) (fun _ _ h => Or.inr (Or.inl h))) (fun _ _ h => h)).trans hf2 (fun _ _ h => Or.inr (Or.inr h))⟩
    · go_enter Try.func12, Try.ntmps12
      go_wp2
      go_ret
      exact ⟨rfl, HS0.out, HF0.out.mono (fun _ _ h => h.elim)⟩

end Go.Proofs.Ytclokfjcjpigpaa
