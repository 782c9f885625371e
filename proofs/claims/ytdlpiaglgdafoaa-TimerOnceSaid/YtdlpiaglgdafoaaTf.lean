/-
  The heap's methods: Pop, Push.
-/
import Derived.Test.YtdlpiaglgdafoaaTe
import Derived.Maps.AppendAt
import Derived.WalkLawsBesides
namespace Go.Proofs.Ytdlpiaglgdafoaa
open Go.RowKit Go.Maps

theorem info53 : (Try.prog.info? 53).map (fun i => (i.zero, i.size, i.bytes)) = some (some (.pointer none), 1, 8) := by kernel_rfl

section
variable {w w1 : World} {base q : Nat} {mv : Value} {L : List EntD} {v : Value}

theorem HAt.pop {g cap n : Nat} (h : HAt w base q mv L (.slice (some ⟨g, 0, none⟩) (n + 1) cap)) (hn : L.length = n + 1) :
    HAt (w.setCell ⟨q, 0, none⟩ (.slice (some ⟨g, 0, none⟩) n cap)) base q mv (L.take n) (.slice (some ⟨g, 0, none⟩) n cap) ∧
    Fr (fun i => i = q) w (w.setCell ⟨q, 0, none⟩ (.slice (some ⟨g, 0, none⟩) n cap)) := by
  obtain ⟨n1, _⟩ := h.row_ne (g := g) rfl
  have hl : (L.take n).length = n := by rw [List.length_take]; omega
  refine ⟨⟨h.blk.set_ 0 _, ?_, fun k hk => ?_, fun e he => h.eb e (List.mem_of_mem_take he), h.hq⟩, (Fr.refl (fun i => i = q) w).setCell (p := ⟨q, 0, none⟩) (Or.inl rfl) _⟩
  · rw [hl]
    have hr := h.row
    rw [hn] at hr
    have e1 : L.map encE = (L.take n).map encE ++ (L.drop n).map encE := by rw [← List.map_append, List.take_append_drop]
    rw [e1] at hr
    have h2 := ownsRow_pop (by rw [List.length_map, hl]; omega) hr
    exact ownsRow_fr h2 ((Fr.refl (fun k => k = q) w).setCell (p := ⟨q, 0, none⟩) (Or.inl rfl) _) (fun k hk e => by cases hk; exact n1 e.symm)
  · have hk' : k < L.length := by rw [hl] at hk; omega
    rw [List.getElem_take]
    exact (h.ent k hk').far (p := ⟨q, 0, none⟩) (fun e => h.q_ne k hk' e.symm) _

theorem HAt.push {b : Nat} {at_ id p : Int} {tmp : Obj} {v' : Value} (h : HAt w base q mv L v) (hb : Blk w b 56 #[.int .i64 at_, .int .i64 id, .int .i64 p]) (hbb : base ≤ b) (hne : ∀ e ∈ L, e.1 ≠ b)
    (hown : w1.ownsRow base 53 1 v' (L.length + 1) (L.map encE ++ [.pointer (some ⟨b, 0, none⟩)])) (hg : ((w.setCell ⟨b, 2, none⟩ (.int .i64 L.length)).alloc tmp).grownBy w1 v.ownBlock)
    (hat : v'.ownBlock = v.ownBlock ∨ v'.ownBlock = some (((w.setCell ⟨b, 2, none⟩ (.int .i64 L.length)).alloc tmp).heap.size)) :
    HAt (w1.setCell ⟨q, 0, none⟩ v') base q mv (L ++ [(b, (at_, id))]) v' ∧ Fr (fun i => i = q ∨ i = b ∨ HS v L i) w (w1.setCell ⟨q, 0, none⟩ v') ∧ Blk w1 q 52 #[v, mv] ∧ (∀ i, v'.ownBlock = some i → v.ownBlock = some i ∨ w.heap.size ≤ i) := by
  have hqb : q ≠ b := fun e => by subst e; exact absurd (h.blk.uniq hb).1 (by decide)
  have vne : ∀ {g : Nat} {t : TypeId} {cs : Array Value}, Blk w g t cs → t ≠ 53 → v.ownBlock ≠ some g := fun hg ht e => by
    obtain ⟨cur, hc⟩ := ownsRow_block h.row e
    unfold Blk at hg
    rw [hg] at hc; cases hc; exact ht rfl
  have hq1 : Blk w1 q 52 #[v, mv] := ((h.blk.far (p := ⟨b, 2, none⟩) hqb _).alloc tmp).grown hg (fun e => vne h.blk (by decide) e.symm)
  have hs : w.heap.size ≤ (w.setCell ⟨b, 2, none⟩ (.int .i64 L.length)).heap.size := by simp [World.setCell]
  refine ⟨⟨hq1.set_ 0 v', ?_, fun k hk => ?_, fun e he => ?_, h.hq⟩, ?_, hq1, fun i hi => ?_⟩
  · rw [List.length_append, List.map_append]
    exact ownsRow_set hown hq1 (by decide) _ _
  · rw [List.length_append] at hk
    by_cases hlt : k < L.length
    · rw [List.getElem_append_left hlt]
      have hk1 := h.ent k hlt
      have h2 := ((hk1.far (p := ⟨b, 2, none⟩) (hne _ (List.getElem_mem hlt)) (.int .i64 L.length)).alloc tmp).grown hg (fun e => vne hk1 (by decide) e.symm)
      exact h2.far (p := ⟨q, 0, none⟩) (fun e => h.q_ne k hlt e.symm) _
    · obtain rfl : k = L.length := by simp only [List.length_cons, List.length_nil] at hk; omega
      rw [List.getElem_append_right (Nat.le_refl _)]
      have hbs := hb.set_ 2 (.int .i64 L.length)
      have h2 := (hbs.alloc tmp).grown hg (fun e => vne hb (by decide) e.symm)
      have h3 := h2.far (p := ⟨q, 0, none⟩) (fun e => hqb e.symm) v'
      simpa using h3
  · rcases List.mem_append.1 he with he | he
    · exact h.eb e he
    · rw [List.mem_singleton] at he
      subst he
      exact hbb
  · exact ((((Fr.refl (fun i => i = q ∨ i = b ∨ HS v L i) w).setCell (p := ⟨b, 2, none⟩) (Or.inl (Or.inr (Or.inl rfl))) _).alloc tmp).grown hg (fun k e => Or.inl (Or.inr (Or.inr (Or.inl e))))).setCell (p := ⟨q, 0, none⟩) (Or.inl (Or.inl rfl)) _
  · rcases hat with e | e
    · exact Or.inl (e ▸ hi)
    · rw [e] at hi
      cases hi
      right
      rw [World.size_alloc]
      omega
end

set_option maxRecDepth 20000 in
set_option maxHeartbeats 1000000 in
theorem pop51_any (w : World) (base q : Nat) (mv : Value) (L : List EntD) (v : Value) (n : Nat) (h : HAt w base q mv L v) (hn : L.length = n + 1) (hl : L.length ≤ 100000) :
    Calls Try.prog 51 #[.pointer (some ⟨q, 0, none⟩)] w fun e w' => ∃ v', e = .returned (.iface 53 (.pointer (some ⟨(L[n]'(by omega)).1, 0, none⟩))) ∧ HAt w' base q mv (L.take n) v' ∧ v'.ownBlock = v.ownBlock ∧ Fr (fun i => i = q) w w' := by
  obtain ⟨g, cap, rfl, c⟩ := h.elem (k := n) (by omega)
  rw [hn] at h
  have hfin := h.pop hn
  have c0 := h.blk.cell 0
  have f0 := h.blk.frozen 0
  have hcap : n ≤ cap := by
    rcases h.row.2 with ⟨h1, _⟩ | ⟨g', c', cur, hv, _, _, h4, _⟩
    · cases h1
    · simp only [Value.slice.injEq] at hv; omega
  have n0 : (0 : Int) ≤ (n : Int) := by omega
  have n1 : (n : Int) ≤ (cap : Int) := by omega
  have n2 : (n : Int) < ((n + 1 : Nat) : Int) := by omega
  generalize (L[n]).1 = b at *
  have HFIN := Lib.hid hfin
  have hn' := Lib.hid hn
  rw [hn]
  rw [hn] at hl
  clear hfin h hn
  go_enter Try.func51, Try.ntmps51
  go_wp2
  go_ret
  exact ⟨_, rfl, HFIN.out.1, rfl, HFIN.out.2⟩

theorem ta53 (w : World) (a : Addr) : (Instr.typeAssert (.iface 53 (.pointer (some a))) 20 53 false).run Try.prog w = .ok (.pointer (some a)) w := by kernel_rfl

set_option maxRecDepth 20000 in
set_option maxHeartbeats 1000000 in
theorem push52_any (w : World) (base q : Nat) (mv : Value) (L : List EntD) (v : Value) (h : HAt w base q mv L v) (hl : L.length < 100000) (b : Nat) (at_ id p : Int) (hb : Blk w b 56 #[.int .i64 at_, .int .i64 id, .int .i64 p]) (hbb : base ≤ b) (hne : ∀ e ∈ L, e.1 ≠ b) (hbs : base ≤ w.heap.size) :
    Calls Try.prog 52 #[.pointer (some ⟨q, 0, none⟩), .iface 53 (.pointer (some ⟨b, 0, none⟩))] w fun e w' => ∃ v', e = .returned (.tuple #[]) ∧ HAt w' base q mv (L ++ [(b, (at_, id))]) v' ∧ Fr (fun i => i = q ∨ i = b ∨ HS v L i) w w' ∧ (∀ i, v'.ownBlock = some i → v.ownBlock = some i ∨ w.heap.size ≤ i) := by
  obtain ⟨i0, hi, hz0, hz1, hz2⟩ := info_parts info53
  have hpu := fun (w1 : World) (tmp : Obj) (v' : Value) hown hg hat => h.push (w1 := w1) (tmp := tmp) (v' := v') hb hbb hne hown hg hat
  have hqb : q ≠ b := fun e => by subst e; exact absurd (h.blk.uniq hb).1 (by decide)
  have hrb : ∀ g, v.ownBlock = some g → g ≠ b := fun g hg e => by
    obtain ⟨cur, hc⟩ := ownsRow_block h.row hg
    unfold Blk at hb
    rw [e, hb] at hc; cases hc
  have hrow := ownsRow_fr h.row ((Fr.refl (fun k => k = b) w).setCell (p := ⟨b, 2, none⟩) (Or.inl rfl) (.int .i64 L.length)) (fun k hk e => hrb k hk e)
  obtain ⟨A, cap, rfl⟩ := h.shape
  have c0 := h.blk.cell 0
  have b2 := hb.cell 2
  have f2 := hb.frozen 2
  have d0 : (w.setCell ⟨b, 2, none⟩ (.int .i64 L.length)).cell? ⟨q, 0, none⟩ = some (.slice A L.length cap) := (h.blk.far (p := ⟨b, 2, none⟩) hqb _).cell 0
  have hz : w.heap.size = (w.setCell ⟨b, 2, none⟩ (.int .i64 L.length)).heap.size := by simp [World.setCell]
  have hsz : base ≤ (w.setCell ⟨b, 2, none⟩ (.int .i64 L.length)).heap.size := by omega
  have hnw := news_one (w.setCell ⟨b, 2, none⟩ (.int .i64 L.length)) 53 [.pointer (some ⟨b, 0, none⟩)]
  rw [← hz] at hnw
  have HPU := Lib.hid hpu
  have HB := Lib.hid hb
  have hta := fun w => ta53 w ⟨b, 0, none⟩
  clear hpu h hne hb hz
  go_enter Try.func52, Try.ntmps52
  go_wp2_with (at_builtin; refine wpList_append_own_at _ rfl _ _ 50 rfl base 53 i0 (.pointer none) 1 8 Try.underlying50 hi hz0 hz1 hz2 rfl (by decide) _ _ _ rfl (hrow.alloc _) ⟨w.heap.size, 0, none⟩ 1 1 [.pointer (some ⟨b, 0, none⟩)] rfl rfl hnw (by simp [Value.oneCell']) (by unfold maxLen; omega) (by omega) (by simp only [World.size_alloc]; omega) ?_; intro v' w3 hown1 hgrow1 hne1 hat1; obtain ⟨g', cap1, rfl⟩ := row_succ hown1; have hpp := HPU.out w3 _ _ hown1 hgrow1 hat1; have e0 := hpp.2.2.1.cell 0; have f0 := hpp.2.2.1.frozen 0; have HPP := Lib.hid hpp; clear hpp)
  go_end0
  obtain ⟨p1, p2, _, p4⟩ := HPP.out
  exact ⟨_, rfl, p1, p2, p4⟩

end Go.Proofs.Ytdlpiaglgdafoaa
