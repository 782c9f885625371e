/-
  Slices of masks; told.
-/
import Derived.Test.YtcefadbnmpjeiaaM
import Derived.Test.YtcefadbnmpjeiaaMaskEq
import Derived.Test.YtcefadbnmpjeiaaInts
import Derived.Test.YtcefadbnmpjeiaaFirst
namespace Go.Proofs.Ytcefadbnmpjeiaa
open Go.RowKit Go.Maps Go.Shelf

/-- The slice v holds the masks Ms. -/
def MsV (w : World) (v : Value) (Ms : List Nat) : Prop :=
  ∃ A cap, v = .slice A Ms.length cap ∧ ∀ k (hk : k < Ms.length), ∃ b off, A = some ⟨b, off, none⟩ ∧ ∀ i, i < 4 → w.cell? ⟨b, off + (k * 4 + i), none⟩ = some (.int .u64 (wordM (Ms[k]'hk) i : Nat))

section
variable {S : Nat → Prop} {w w' : World} {v : Value} {L : List Nat}
theorem MsV.fr (h : MsV w v L) (hf : Fr S w w') (hs : ∀ g, v.ownBlock = some g → ¬ S g) : MsV w' v L := by
  obtain ⟨A, cap, rfl, hc⟩ := h
  refine ⟨A, cap, rfl, fun k hk => ?_⟩
  obtain ⟨b, off, rfl, h1⟩ := hc k hk
  exact ⟨b, off, rfl, fun i hi => fr_cell hf (h1 i hi) (hs b rfl)⟩
theorem MsV.fr0 (h : MsV w v L) (hf : Fr (fun _ => False) w w') : MsV w' v L := h.fr hf (fun _ _ h => h)
theorem MsV.of_row {base : Nat} {t : TypeId} (h : w.ownsRow base t 4 v L.length (flatM L)) : MsV w v L := by
  obtain ⟨A, cap, rfl⟩ := row_shape h
  refine ⟨A, cap, rfl, fun k hk => ?_⟩
  obtain ⟨g, c2, hv, hc⟩ := row_elem (fun M => (cellsM M).toList) (fun _ => rfl) h hk
  cases hv
  refine ⟨g, 0, rfl, fun i hi => ?_⟩
  rw [Nat.zero_add]
  exact hc i _ hi (by match i, hi with | 0, _ => rfl | 1, _ => rfl | 2, _ => rfl | 3, _ => rfl)
end

theorem flatM_len (Ms : List Nat) : (flatM Ms).length = Ms.length * 4 := flat_len (fun M => (cellsM M).toList) 4 (fun _ => rfl) Ms

theorem info40 : (Try.prog.info? 40).map (fun i => (i.zero, i.size, i.bytes)) = some (some (.agg #[.int .u64 0, .int .u64 0, .int .u64 0, .int .u64 0]), 4, 32) := by kernel_rfl

set_option maxRecDepth 20000 in
set_option maxHeartbeats 2000000 in
theorem told28_any (w : World) (v : Value) (Ms : List Nat) (h : MsV w v Ms) (hl : Ms.length ≤ 1000) :
    Calls Try.prog 28 #[v] w fun e w' => ∃ v', e = .returned v' ∧ w'.ownsRow w.heap.size 40 4 v' Ms.length (flatM Ms) ∧ Fr (fun _ => False) w w' := by
  obtain ⟨j0, hj, hy0, hy1, hy2⟩ := info_parts info40
  have HH := Lib.hid h
  obtain ⟨A, cap, rfl, _⟩ := h
  go_enter Try.func28, Try.ntmps28
  go_wp2_with fail
  go_loopw [3, 4] (fun v i wr => ∃ k : Nat, k ≤ Ms.length ∧ i = .int .i64 k ∧ wr.ownsRow w.heap.size 40 4 v k (flatM (Ms.take k)) ∧ Fr (fun _ => False) w wr) (fun _ i _ => Ms.length - (intOf i).toNat)
  case atStart => exact ⟨0, Nat.zero_le _, rfl, World.ownsRow_nil _ _ _ _, Fr.refl _ _⟩
  case round =>
    obtain ⟨k, hk, rfl, hrow, hfr⟩ := hrel
    by_cases hlt : k < Ms.length
    · obtain ⟨B, cp, hv, hc⟩ := HH.out.fr0 hfr
      cases hv
      obtain ⟨g, off, rfl, c⟩ := hc k hlt
      have HST := Lib.hid (show flatM (Ms.take (k + 1)) = flatM (Ms.take k) ++ [.int .u64 (wordM Ms[k] 0 : Nat), .int .u64 (wordM Ms[k] 1 : Nat), .int .u64 (wordM Ms[k] 2 : Nat), .int .u64 (wordM Ms[k] 3 : Nat)] by
        rw [List.take_succ_eq_append_getElem hlt, flatM_snoc])
      have HROW := Lib.hid hrow
      obtain ⟨A', cap', rfl⟩ := row_shape hrow
      generalize Ms[k] = M at *
      have l0 := Later.cell (show wr.cell? ⟨g, off + k * 4, none⟩ = some (.int .u64 (wordM M 0 : Nat)) from by simpa only [Nat.add_zero, Nat.add_assoc] using c 0 (by omega))
      have l1 := Later.cell (show wr.cell? ⟨g, off + k * 4 + 1, none⟩ = some (.int .u64 (wordM M 1 : Nat)) from by simpa only [Nat.add_zero, Nat.add_assoc] using c 1 (by omega))
      have l2 := Later.cell (show wr.cell? ⟨g, off + k * 4 + 2, none⟩ = some (.int .u64 (wordM M 2 : Nat)) from by simpa only [Nat.add_zero, Nat.add_assoc] using c 2 (by omega))
      have l3 := Later.cell (show wr.cell? ⟨g, off + k * 4 + 3, none⟩ = some (.int .u64 (wordM M 3 : Nat)) from by simpa only [Nat.add_zero, Nat.add_assoc] using c 3 (by omega))
      clear c hc hrow
      go_wp2_with fail
      refine wp_region_first (v := .slice A' k cap') wr 22 (by kernel_rfl) (by kernel_rfl) (Fr.refl _ _) (fun _ _ _ h => h) (Or.inl ⟨by rfl, fun W => by go_simp⟩) (by simp [Act.put]; rfl) ?_
      simp only [List.take_succ_cons, List.take_zero, List.drop_succ_cons, List.drop_zero, Nat.add_one_sub_one, Nat.reduceSub]
      repeat (go_big_quiet_step (fail))
      refine wpQuiet_nil ?_
      rintro _ ⟨dd, rfl⟩
      have hrow2 := ownsRow_fr HROW.out dd.fr (fun _ _ h => h)
      have hkr := hrow2.lt
      have hsz := hfr.size
      have hsz2 := dd.fr.size
      clear l0 l1 l2 l3
      go_wp2_with (at_builtin; refine wpList_append_own _ rfl _ _ 52 rfl w.heap.size 40 j0 (.agg #[.int .u64 0, .int .u64 0, .int .u64 0, .int .u64 0]) 4 32 Try.underlying52 hj hy0 hy1 hy2 rfl (by decide) _ _ _ rfl (hrow2.alloc _) ⟨dd.val.heap.size, 0, none⟩ 1 1 [.int .u64 (wordM M 0 : Nat), .int .u64 (wordM M 1 : Nat), .int .u64 (wordM M 2 : Nat), .int .u64 (wordM M 3 : Nat)] rfl rfl (news_one dd.val 40 _) (by simp [Value.oneCell']) (by unfold maxLen; omega) (by omega) (by simp; omega) ?_; intro v' w3 hown1 hgrow1 hne1)
      go_roundw
      case rel => exact ⟨k + 1, by omega, by go_num, by rw [HST.out]; exact hown1, ((hfr.then dd.fr).alloc _).grown hgrow1 (fun q e => Or.inr (hkr q e).1)⟩
      case measure => simp [intOf]; omega
    · obtain rfl : k = Ms.length := by omega
      rw [List.take_length] at hrow
      go_wp2
      go_ret
      exact ⟨_, rfl, hrow, hfr⟩

end Go.Proofs.Ytcefadbnmpjeiaa
