/-
  Contracts of the functions that only compute: the credential's checks, of the program and of the reference.
-/
import Derived.Test.YtclokfjcjpigpaaRows
import Derived.WalkKit
import Derived.WalkSpells
import Derived.WalkLawsBesides
import Derived.BigQuiet
import Derived.Lib.Hide
import Derived.Deep.QuietTactic
namespace Go.Proofs.Ytclokfjcjpigpaa
open Go.RowKit

def inR (n lo hi : Int) : Bool := decide (lo ≤ n) && decide (n ≤ hi)

theorem inR_not (n lo hi : Int) (h : lo ≤ n → hi < n) : inR n lo hi = false := by
  simp [inR]; omega

set_option maxHeartbeats 400000 in
theorem in_any (n lo hi : Int) (w : World) :
    Calls Try.prog 31 #[.int .i64 n, .int .i64 lo, .int .i64 hi] w fun e w' => e = .returned (.bool (inR n lo hi)) ∧ w = w' := by
  go_enter Try.func31, Try.ntmps31
  go_wp2
  all_goals (go_ret; refine ⟨?_, rfl⟩; simp_all [inR]; try omega)

set_option maxHeartbeats 400000 in
theorem num30_any (n : Int) (w : World) :
    Calls Try.prog 30 #[.int .i64 n] w fun e w' => e = .returned (.bool (inR n 0 1099511627776)) ∧ w = w' := by
  go_enter Try.func30, Try.ntmps30
  go_wp2_with (go_at_call 31; refine (in_any _ _ _ _).mono ?_; rintro e w' ⟨rfl, rfl⟩)
  go_ret
  exact ⟨rfl, rfl⟩

set_option maxHeartbeats 400000 in
theorem num28_any (n : Int) (w : World) :
    Calls Try.prog 28 #[.int .i64 n] w fun e w' => e = .returned (.bool (inR n 0 1099511627776)) ∧ w = w' := by
  go_enter Try.func28, Try.ntmps28
  go_wp2
  all_goals (go_ret; refine ⟨?_, rfl⟩; simp_all [inR]; try omega)

/-- The numbers behind a slice's address. -/
def Nums (w : World) (B : Nat) (A : Option Addr) (ns : List Int) : Prop :=
  ∀ k, k < ns.length → ∃ ad, A = some ad ∧ ad.block < B ∧ w.cell? (ad.add k) = some (.int .i64 (ns.getD k 0))

theorem block_of_add (a : Addr) (n : Nat) : (a.add n).block = a.block := by unfold Addr.add; split <;> rfl

theorem Nums.below {w w' : World} {B : Nat} {A : Option Addr} {ns : List Int} (h : Nums w B A ns) (hb : Below B w w') : Nums w' B A ns := by
  intro k hk
  obtain ⟨ad, e, h1, h2⟩ := h k hk
  exact ⟨ad, e, h1, (hb.cell (by rw [block_of_add]; exact h1)).trans h2⟩

def nodesFrom (last : Int) : List Int → Bool
  | [] => true
  | n :: r => if n ≤ last ∨ 16 ≤ n then false else nodesFrom n r

def nodesOk (ns : List Int) : Bool := nodesFrom (-1) ns && decide (0 < ns.length)

theorem drop_cons (ns : List Int) (k : Nat) (h : k < ns.length) : ns.drop k = ns.getD k 0 :: ns.drop (k + 1) := by
  rw [List.drop_eq_getElem_cons h]; simp [List.getD, List.getElem?_eq_getElem h]

theorem nodes_no {ns : List Int} {last : Int} {k : Nat} (h : nodesFrom (-1) ns = nodesFrom last (ns.drop k)) (hk : k < ns.length) (hc : ns.getD k 0 ≤ last ∨ 16 ≤ ns.getD k 0) : nodesOk ns = false := by
  rw [drop_cons _ _ hk, nodesFrom, if_pos hc] at h
  simp [nodesOk, h]
theorem nodes_go {ns : List Int} {last : Int} {k : Nat} (h : nodesFrom (-1) ns = nodesFrom last (ns.drop k)) (hk : k < ns.length) (h1 : last < ns.getD k 0) (h2 : ns.getD k 0 < 16) :
    nodesFrom (-1) ns = nodesFrom (ns.getD k 0) (ns.drop (k + 1)) := by
  rw [drop_cons _ _ hk, nodesFrom, if_neg (by omega)] at h
  exact h
theorem nodes_end {ns : List Int} {last : Int} (h : nodesFrom (-1) ns = nodesFrom last (ns.drop ns.length)) : nodesOk ns = decide (0 < ns.length) := by
  rw [List.drop_length] at h
  simp [nodesOk, h, nodesFrom]

set_option maxHeartbeats 400000 in
theorem nodes_any (A : Option Addr) (c B : Nat) (ns : List Int) (w : World) (hA : Nums w B A ns) (hm : ns.length ≤ maxLen) :
    Calls Try.prog 32 #[.slice A ns.length c] w fun e w' => e = .returned (.bool (nodesOk ns)) ∧ w = w' := by
  unfold maxLen at hm
  go_enter Try.func32, Try.ntmps32
  go_wp2
  go_loop [3, 8] (fun l i => ∃ (k : Nat) (last : Int), k ≤ ns.length ∧ i = .int .i64 k ∧ l = .int .i64 last ∧ Hid (nodesFrom (-1) ns = nodesFrom last (ns.drop k))) (fun _ i => ns.length - (intOf i).toNat)
  case atStart => exact ⟨0, -1, Nat.zero_le _, rfl, rfl, rfl⟩
  case round =>
    obtain ⟨k, last, hk, rfl, rfl, hh⟩ := hrel
    by_cases hlt : k < ns.length
    · obtain ⟨ad, rfl, _, hc⟩ := hA k hlt
      clear hA
      have hg : ∃ g, ns.getD k 0 = g := ⟨_, rfl⟩
      obtain ⟨g, hg⟩ := hg
      rw [hg] at hc
      have Hg := (show Hid (ns.getD k 0 = g) from hg)
      clear hg
      go_wp2
      · have h1 : 16 ≤ g := by omega
        go_ret
        exact ⟨by rw [nodes_no hh.out hlt (Or.inr (by rw [Hg.out]; exact h1))]; rfl, rfl⟩
      · have h1 : g < 16 := by omega
        have h2 : last < g := by omega
        go_round
        case rel => exact ⟨k + 1, g, by omega, by go_num, rfl, by have := nodes_go hh.out hlt (by rw [Hg.out]; exact h2) (by rw [Hg.out]; exact h1); rw [Hg.out] at this; exact this⟩
        case measure => simp [intOf]; omega
      · have h1 : g ≤ last := by omega
        go_ret
        exact ⟨by rw [nodes_no hh.out hlt (Or.inl (by rw [Hg.out]; exact h1))]; rfl, rfl⟩
    · obtain rfl : k = ns.length := by omega
      go_wp2
      go_ret
      exact ⟨by rw [nodes_end hh.out]; rfl, rfl⟩


structure CredD where
  job : Int
  epoch : Int
  step : Int
  frm : Int
  until_ : Int
  A : Option Addr
  c : Nat
  ns : List Int
  cores : Int

def CredD.val (x : CredD) : Value := .agg #[.int .i64 x.job, .int .i64 x.epoch, .int .i64 x.step, .int .i64 x.frm, .int .i64 x.until_, .slice x.A x.ns.length x.c, .int .i64 x.cores]
def CredD.cells (x : CredD) : Array Value := #[.int .i64 x.job, .int .i64 x.epoch, .int .i64 x.step, .int .i64 x.frm, .int .i64 x.until_, .slice x.A x.ns.length x.c, .int .i64 x.cores]

def M40 : Int := 1099511627776

def CredD.ok (x : CredD) : Bool := inR x.job 0 1099511627776 && inR x.step 0 1099511627776 && inR x.frm 0 1099511627776 && inR x.until_ 0 1099511627776 && inR x.epoch 0 8 && inR x.cores 1 256 && nodesOk x.ns

def chk (x : CredD) : Int := if x.ok then 0 else 1

set_option maxHeartbeats 1000000 in
theorem check25_any (x : CredD) (B : Nat) (w : World) (hB : B ≤ w.heap.size) (hA : Nums w B x.A x.ns) (hm : x.ns.length ≤ maxLen) :
    Calls Try.prog 25 #[x.val] w fun e w' => e = .returned (.int .i64 (chk x)) ∧ Below w.heap.size w w' := by
  obtain ⟨job, epoch, step, frm, unt, A, c, ns, cores⟩ := x
  simp only [CredD.val]
  have hA' := hA.below ((Below.refl B w).alloc hB (.cells #[.int .i64 job, .int .i64 epoch, .int .i64 step, .int .i64 frm, .int .i64 unt, .slice A ns.length c, .int .i64 cores] 31))
  have HA := Lib.hid hA'
  clear hA hA'
  have h25 := fun n W => num30_any n W
  go_enter Try.func25, Try.ntmps25
  go_wp2_with (first
    | (go_at_call 30; refine (num30_any _ _).mono ?_; rintro e w' ⟨rfl, rfl⟩)
    | (go_at_call 31; refine (in_any _ _ _ _).mono ?_; rintro e w' ⟨rfl, rfl⟩)
    | (go_at_call 32; refine (nodes_any _ _ B _ _ HA.out hm).mono ?_; rintro e w' ⟨rfl, rfl⟩))
  all_goals go_ret
  all_goals
    refine ⟨?_, (Below.refl _ _).alloc (Nat.le_refl _) _⟩
    first
      | (have e : chk ⟨job, epoch, step, frm, unt, A, c, ns, cores⟩ = 1 := by simp_all [chk, CredD.ok]
         rw [e]; rfl)
      | (have e : chk ⟨job, epoch, step, frm, unt, A, c, ns, cores⟩ = 0 := by simp_all [chk, CredD.ok]
         rw [e]; rfl)

end Go.Proofs.Ytclokfjcjpigpaa
