/-
  Scripts in memory; 'small'; 'does'.
-/
import Derived.Test.YtclokfjcjpigpaaV
import Derived.Test.YtclokfjcjpigpaaMid
import Derived.Test.YtclokfjcjpigpaaH
namespace Go.Proofs.Ytclokfjcjpigpaa
open Go.RowKit Go.Maps

structure OpD where
  do_ : Int
  c : CredD
  now : Int
  job : Int
  epoch : Int

def OpD.cells (o : OpD) : Array Value := #[.int .i64 o.do_, .int .i64 o.c.job, .int .i64 o.c.epoch, .int .i64 o.c.step, .int .i64 o.c.frm, .int .i64 o.c.until_, .slice o.c.A o.c.ns.length o.c.c, .int .i64 o.c.cores, .int .i64 o.now, .int .i64 o.job, .int .i64 o.epoch]
def OpD.val (o : OpD) : Value := .agg o.cells

/-- A script lies behind an address below block B. -/
structure Ops (w : World) (B : Nat) (A : Option Addr) (l : List OpD) : Prop where
  at_ : ∀ k (hk : k < l.length), ∃ b off, A = some ⟨b, off, none⟩ ∧ b < B ∧ ∀ j u, (l[k]'hk).cells[j]? = some u → w.cell? ⟨b, off + k * 11 + j, none⟩ = some u
  wf : ∀ o ∈ l, o.c.wf
  nums : ∀ o ∈ l, Nums w B o.c.A o.c.ns
  len : ∀ o ∈ l, o.c.ns.length ≤ maxLen

theorem Ops.below {w w' : World} {B : Nat} {A : Option Addr} {l : List OpD} (h : Ops w B A l) (hb : Below B w w') : Ops w' B A l where
  at_ k hk := by
    obtain ⟨b, off, rfl, hB, hc⟩ := h.at_ k hk
    exact ⟨b, off, rfl, hB, fun j u hu => (hb.cell (p := ⟨b, off + k * 11 + j, none⟩) hB).trans (hc j u hu)⟩
  wf := h.wf
  nums o ho := (h.nums o ho).below hb
  len := h.len

def smallB (l : List OpD) (most : Int) : Bool := l.all (fun o => decide (o.c.ns.length ≤ 20)) && decide ((l.length : Int) ≤ most)

theorem small_no {l : List OpD} {k : Nat} (hk : k < l.length) (h : ¬ (l[k]'hk).c.ns.length ≤ 20) (most : Int) : smallB l most = false := by
  unfold smallB
  rw [Bool.and_eq_false_iff]
  left
  rw [List.all_eq_false]
  exact ⟨_, List.getElem_mem hk, by simpa using h⟩

set_option maxHeartbeats 1000000 in
theorem small8_any (w : World) (B : Nat) (A : Option Addr) (cap : Nat) (l : List OpD) (h : Ops w B A l) (hl : l.length ≤ maxLen) (most : Int) (res : Bool) (hres : Hid (res = smallB l most)) :
    Calls Try.prog 8 #[.slice A l.length cap, .int .i64 most] w fun e w' => e = .returned (.bool res) ∧ w = w' := by
  unfold maxLen at hl
  go_enter Try.func8, Try.ntmps8
  go_wp2
  go_loop [5] (fun i => ∃ k : Nat, k ≤ l.length ∧ i = .int .i64 k ∧ Hid (∀ j (hj : j < l.length), j < k → (l[j]'hj).c.ns.length ≤ 20)) (fun i => l.length - (intOf i).toNat)
  case atStart => exact ⟨0, Nat.zero_le _, rfl, fun j _ hj => by omega⟩
  case round =>
    obtain ⟨k, hk, rfl, hh⟩ := hrel
    by_cases hlt : k < l.length
    · obtain ⟨b, off, rfl, _, hc⟩ := h.at_ k hlt
      have c6 : w.cell? ⟨b, off + k * 11 + 6, none⟩ = some (.slice (l[k]'hlt).c.A (l[k]'hlt).c.ns.length (l[k]'hlt).c.c) := hc 6 _ rfl
      have HN := Lib.hid (fun hn => small_no hlt hn most)
      have HY := Lib.hid (fun (hn : (l[k]'hlt).c.ns.length ≤ 20) => (show ∀ j (hj : j < l.length), j < k + 1 → (l[j]'hj).c.ns.length ≤ 20 from fun j hj hjk => by
        rcases Nat.lt_or_ge j k with h1 | h1
        · exact hh.out j hj h1
        · obtain rfl : j = k := by omega
          exact hn))
      clear hc
      generalize l[k] = o at *
      generalize o.c.ns.length = m at *
      generalize o.c.A = A' at *
      generalize o.c.c = c' at *
      by_cases h20 : m ≤ 20
      · go_wp2
        exact ⟨⟨k + 1, hlt, by push_cast; rfl, Lib.hid (HY.out h20)⟩, by simp only [intOf]; omega⟩
      · go_wp2
        go_ret
        exact ⟨by rw [hres.out, HN.out h20]; rfl, rfl⟩
    · obtain rfl : k = l.length := by omega
      go_wp2
      go_ret
      exact ⟨by
        rw [hres.out]
        have : l.all (fun o => decide (o.c.ns.length ≤ 20)) = true := by
          rw [List.all_eq_true]
          intro o ho
          obtain ⟨j, hj, rfl⟩ := List.getElem_of_mem ho
          simpa using hh.out j hj hj
        simp [smallB, this], rfl⟩

end Go.Proofs.Ytclokfjcjpigpaa
