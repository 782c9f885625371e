/-
  The program's Order.
-/
import Derived.Test.YtcefadbnmpjeiaaE
import Derived.Laws.EntriesVeiled
namespace Go.Proofs.Ytcefadbnmpjeiaa
open Go.RowKit Go.Maps Go.Shelf
attribute [local go_sem] Oper.semAt_some

theorem block_stops (n : Nat) (hn : 4 ≤ n) (Bb : Nat) (S : Nat → Prop) (l : LayD) (c : Nat) (hc : l.count = (c : Int)) (w : World) (hBb : Blk w Bb 28 #[.int .i64 l.s, .int .i64 l.p]) :
    SeqStopsK Fence.wide n Try.prog 88 #[.pointer (some ⟨Bb, 0, none⟩)] encX (KpS S w.heap.size) (fun ys => ys = upTo c) (fun pre => pre <+: upTo c) c w := fun lp J Jx W hW hJ _ hY h0 => by
  have hf : Fr (fun _ => False) w W := Fr.of_below hW
  exact block88_in n hn lp Bb S w.heap.size l J Jx c hc hY W (hBb.fr hf (fun h => h)) hJ h0

theorem cyclic_stops (n : Nat) (hn : 4 ≤ n) (Bb : Nat) (S : Nat → Prop) (s p : Nat) (hsb : 1 ≤ s ∧ s ≤ 8) (hpb : 1 ≤ p ∧ p ≤ 64) (hS : ¬ S Bb) (w : World) (hBb : Blk w Bb 28 #[.int .i64 s, .int .i64 p]) :
    SeqStopsK Fence.wide n Try.prog 89 #[.pointer (some ⟨Bb, 0, none⟩)] encX (KpS S w.heap.size) (fun ys => ys = cyc s p p) (fun pre => pre <+: cyc s p p) (p * s) w := fun lp J Jx W hW hJ _ hY h0 => by
  have hf : Fr (fun _ => False) w W := Fr.of_below hW
  exact cyclic89_in n hn lp Bb S w.heap.size s p hsb hpb J Jx hY W (hBb.fr hf (fun h => h)) hS hBb.lt h0

theorem nat_may {s p : Nat} (hsb : 1 ≤ s ∧ s ≤ 8) (hpb : 1 ≤ p ∧ p ≤ 64) (hsp : s * p ≤ 256) : (⟨(s : Int), (p : Int)⟩ : LayD).may := by
  have h : ((s * p : Nat) : Int) = (s : Int) * (p : Int) := by simp
  unfold LayD.may
  simp only
  omega
theorem nat_count {s p : Nat} (hsb : 1 ≤ s ∧ s ≤ 8) (hpb : 1 ≤ p ∧ p ≤ 64) (hsp : s * p ≤ 256) : (⟨(s : Int), (p : Int)⟩ : LayD).count = ((s * p : Nat) : Int) := by
  unfold LayD.count
  rw [if_pos (nat_may hsb hpb hsp)]
  simp

/-- What 'of' answers. -/
def ofV (d : Int) : Value × Bool := if d = 0 then (.func (.func 77) #[] #[], true) else if d = 1 then (.func (.func 78) #[] #[], true) else (.nilFunc, false)

set_option maxHeartbeats 1000000 in
theorem of49_any (d : Int) (w : World) : Calls Try.prog 49 #[.int .i64 d] w fun e w' => e = .returned (.tuple #[.agg #[(ofV d).1], .bool (ofV d).2]) ∧ Fr (fun _ => False) w w' := by
  unfold ofV
  by_cases h0 : d = 0
  · subst h0
    rw [if_pos rfl]
    go_enter Try.func49, Try.ntmps49
    go_wp2
    (try simp only [Exit.inBlock, Exit.then])
    refine bodyPost_ret (v := .tuple #[.agg #[.func (.func 77) #[] #[]], .bool true]) ?_ rfl ⟨rfl, ((Fr.refl _ w).alloc _)⟩
    rw [results_cell_tmp rfl]
    go_simp
  · rw [if_neg h0]
    by_cases h1 : d = 1
    · subst h1
      rw [if_pos rfl]
      go_enter Try.func49, Try.ntmps49
      go_wp2
      (try simp only [Exit.inBlock, Exit.then])
      refine bodyPost_ret (v := .tuple #[.agg #[.func (.func 78) #[] #[]], .bool true]) ?_ rfl ⟨rfl, ((Fr.refl _ w).alloc _)⟩
      rw [results_cell_tmp rfl]
      go_simp
    · rw [if_neg h1]
      have b0 : (d == 0) = false := by simpa using h0
      have b1 : (d == 1) = false := by simpa using h1
      clear h0 h1
      go_enter Try.func49, Try.ntmps49
      go_wp2
      (try simp only [Exit.inBlock, Exit.then])
      refine bodyPost_ret (v := .tuple #[.agg #[.nilFunc], .bool false]) ?_ rfl ⟨rfl, ((Fr.refl _ w).alloc _)⟩
      rw [results_cell_tmp rfl]
      go_simp

end Go.Proofs.Ytcefadbnmpjeiaa
