/-
  Assign's plain law: both sides lay the same.
-/
import Derived.Test.YtcefadbnmpjeiaaAs
import Derived.Test.YtcefadbnmpjeiaaOp
namespace Go.Proofs.Ytcefadbnmpjeiaa
open Go.RowKit Go.Maps Go.Shelf

theorem part4_app {fr : List Int} {x : Int} {q i : Nat} (h : (i + 1) * q ≤ fr.length) : part4 (fr ++ [x]) q i = part4 fr q i := by
  unfold part4
  rw [Nat.add_mul] at h
  rw [List.drop_append_of_le_length (by omega), List.take_append_of_le_length (by rw [List.length_drop]; omega)]

def chunksM (fr : List Int) (q : Nat) : List Nat := (List.range (fr.length / q)).map fun i => (ofM (part4 fr q i)).1

theorem foldA_eq (F q : Nat) (hq : 1 ≤ q) (L : List Int) : foldA F q L = (chunksM (L.filter (hasM F)) q, (L.filter (hasM F)).drop ((L.filter (hasM F)).length / q * q)) := by
  suffices hs : ∀ K : List Int, foldA F q K.reverse = (chunksM (K.reverse.filter (hasM F)) q, (K.reverse.filter (hasM F)).drop ((K.reverse.filter (hasM F)).length / q * q)) by
    have := hs L.reverse
    rwa [List.reverse_reverse] at this
  intro K
  induction K with
  | nil => simp [foldA, chunksM]
  | cons x K ih =>
    rw [List.reverse_cons]
    generalize K.reverse = L at *
    rw [foldA_snoc, ih, List.filter_append]
    unfold stepA
    by_cases hx : hasM F x = true
    · rw [if_pos hx, show [x].filter (hasM F) = [x] from by simp [hx]]
      generalize L.filter (hasM F) = fr
      simp only
      have hd := Nat.div_add_mod fr.length q
      have hm := Nat.mod_lt fr.length (show 0 < q by omega)
      have hle : fr.length / q * q ≤ fr.length := Nat.div_mul_le_self _ _
      rw [Nat.mul_comm] at hd
      have hl : (fr.drop (fr.length / q * q)).length = fr.length % q := by rw [List.length_drop]; omega
      rw [hl]
      have hsame : (List.range (fr.length / q)).map (fun i => (ofM (part4 (fr ++ [x]) q i)).1) = (List.range (fr.length / q)).map fun i => (ofM (part4 fr q i)).1 := by
        refine List.map_congr_left fun i hi => ?_
        have hi' : i + 1 ≤ fr.length / q := by have := List.mem_range.1 hi; omega
        rw [part4_app (Nat.le_trans (Nat.mul_le_mul_right q hi') hle)]
      by_cases hc : fr.length % q + 1 < q
      · rw [if_pos hc]
        have hdiv : (fr.length + 1) / q = fr.length / q := by
          rw [show fr.length + 1 = (fr.length % q + 1) + fr.length / q * q by omega, Nat.add_mul_div_right _ _ (by omega), Nat.div_eq_of_lt hc, Nat.zero_add]
        unfold chunksM
        rw [List.length_append, List.length_singleton, hdiv, hsame, List.drop_append_of_le_length hle]
      · rw [if_neg hc]
        have hdiv : (fr.length + 1) / q = fr.length / q + 1 := by
          rw [show fr.length + 1 = (fr.length / q + 1) * q by rw [Nat.add_mul]; omega, Nat.mul_div_cancel _ (by omega)]
        unfold chunksM
        rw [List.length_append, List.length_singleton, hdiv, List.range_succ, List.map_append, hsame]
        have hp : part4 (fr ++ [x]) q (fr.length / q) = fr.drop (fr.length / q * q) ++ [x] := by
          unfold part4
          rw [List.drop_append_of_le_length hle, List.take_of_length_le (by rw [List.length_append, hl]; simp; omega)]
        have hz : (fr ++ [x]).drop ((fr.length / q + 1) * q) = [] := List.drop_of_length_le (by rw [List.length_append, Nat.add_mul]; simp; omega)
        rw [List.map_cons, List.map_nil, hp, hz]
    · rw [if_neg hx, show [x].filter (hasM F) = [] from by simp [hx], List.append_nil]

theorem goodL_part {fr : List Int} (h : goodL fr) (q i : Nat) : goodL (part4 fr q i) :=
  ⟨fun c hc => h.1 c (List.mem_of_mem_drop (List.mem_of_mem_take hc)), (h.2.sublist (List.drop_sublist _ _)).sublist (List.take_sublist _ _)⟩

theorem goodL_filter {L : List Int} (h : goodL L) (p : Int → Bool) : goodL (L.filter p) :=
  ⟨fun c hc => h.1 c (List.mem_filter.1 hc).1, h.2.sublist List.filter_sublist⟩

theorem ofM_make {L : List Int} (h : goodL L) : (ofM L).1 = makeM L := by
  rw [makeM_good h.1]
  unfold ofM
  rw [if_pos h]

theorem asg_ref (F r q : Nat) (hq : 1 ≤ q) {L : List Int} (h : goodL L) : asg F r q L = refA F r q L := by
  unfold asg refA
  rw [foldA_eq F q hq L]
  have hg := goodL_filter h (hasM F)
  generalize L.filter (hasM F) = fr at *
  have hlen : (chunksM fr q).length = fr.length / q := by simp [chunksM]
  rw [hlen]
  by_cases hc : fr.length < r * q
  · rw [if_pos hc, if_neg (by rw [Nat.le_div_iff_mul_le (by omega)]; omega)]
  · have hr : r ≤ fr.length / q := by rw [Nat.le_div_iff_mul_le (by omega)]; omega
    rw [if_neg hc, if_pos hr]
    unfold chunksM
    rw [← List.map_take, List.take_range, Nat.min_eq_left hr]
    congr 1
    exact List.map_congr_left fun i _ => ofM_make (goodL_part hg q i)

theorem order_goodL (l : LayD) (d : Int) (h : okO l d) : goodL (l.order d) := by
  have h1 := (order_facts h).1
  unfold ofM at h1
  by_cases hg : goodL (l.order d)
  · exact hg
  · rw [if_neg hg] at h1; have := congrArg Prod.snd h1; simp at this

theorem assign_ref (l : LayD) (x : WishD) : assignP l x = refP l x := by
  unfold assignP refP
  by_cases h : okW l x
  · rw [if_pos h, if_pos h, asg_ref _ _ _ (by have := h.2.2; omega) (order_goodL l _ h.1)]
  · rw [if_neg h, if_neg h]

theorem makeM_lt (L : List Int) : makeM L < 2 ^ 256 := by
  refine Nat.lt_pow_two_of_testBit _ fun n hn => ?_
  unfold makeM bitsL
  rw [bitsL_bit, Nat.zero_testBit, Bool.false_or, List.any_eq_false]
  intro c hc
  have := List.mem_filter.1 hc
  simp only [decide_eq_true_eq] at this
  simp only [beq_iff_eq]
  omega

theorem refP_lt (l : LayD) (x : WishD) : ∀ M ∈ (refP l x).1, M < 2 ^ 256 := by
  unfold refP refA
  intro M hM
  split at hM
  · split at hM
    · cases hM
    · simp only [List.mem_map] at hM
      obtain ⟨i, _, rfl⟩ := hM
      exact makeM_lt _
  · cases hM

theorem refP_len (l : LayD) (x : WishD) : (refP l x).1.length ≤ 32 := by
  unfold refP refA
  split
  · rename_i h
    split
    · exact Nat.zero_le _
    · have := h.2.1
      simp; omega
  · exact Nat.zero_le _

end Go.Proofs.Ytcefadbnmpjeiaa
