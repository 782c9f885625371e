/-
  Of any layout, any wish and any cores besides: with more cores free nobody who was laid is refused, and the first ranks of more ranks lie where fewer lie.
-/
import Derived.Test.YtcefadbnmpjeiaaMw
namespace Go.Proofs.Ytcefadbnmpjeiaa
open Go.ChangeShapes Go.WideShapes Go.ChangeAt Go.RowKit Go.Deep Go.Maps Go.Shelf

theorem more6_any (l : LayD) (x : WishD) (N : Nat) (w : World) : Calls Try.prog 6 #[l.val, x.val, valM N] w fun e w' => e = .returned (.bool true) ∧ Fr (fun _ => False) w w' := by
  have h14 := fun W => own14_any l W
  have h25 := fun W => wish25_any x W
  have h24 := fun W => assign24_any l x W
  rw [assign_ref] at h24
  obtain ⟨F, r, q, d⟩ := x
  have h24y := fun W => assign24_any l ⟨orM F N, r, q, d⟩ W
  have h24z := fun W => assign24_any l ⟨F, r - 1, q, d⟩ W
  rw [assign_ref] at h24y h24z
  have h30 := fun W => or_any F N W
  by_cases he : (refP l ⟨F, r, q, d⟩).2 = 0
  · have hok := (refP_ok he).1.2.1
    simp only at hok
    have hy := more_plain N he
    have hb := refP_lt l ⟨F, r, q, d⟩
    have hn := refP_len l ⟨F, r, q, d⟩
    by_cases h1 : r ≤ 1
    · have hz := one_plain (l := l) (F := F) (q := q) (d := d) h1
      rw [hz] at h24z
      rw [he] at h24
      rw [hy] at h24y
      obtain ⟨s, p⟩ := l
      exact more6_one s p F N r q d h1 (orM F N) hok _ _ [] h30 h24 h24y h24z h14 h25 w
    · obtain ⟨z1, z2, z3⟩ := less_plain he (by omega)
      have hsm : ∀ k (h1 : k < (refP l ⟨F, r - 1, q, d⟩).1.length) (h2 : k < (refP l ⟨F, r, q, d⟩).1.length), (refP l ⟨F, r, q, d⟩).1[k] = (refP l ⟨F, r - 1, q, d⟩).1[k] := fun k h1 h2 => by
        have := z3 k (by rw [List.getElem?_eq_getElem h1]; rfl)
        rw [List.getElem?_eq_getElem h1, List.getElem?_eq_getElem h2] at this
        exact Option.some.inj this
      rw [z1] at h24z
      rw [he] at h24
      rw [hy] at h24y
      obtain ⟨s, p⟩ := l
      exact more6_yes s p F N r q d (by omega) (orM F N) hok _ _ _ h30 h24 h24y h24z hn z2 hsm hb h14 h25 w
  · obtain ⟨s, p⟩ := l
    exact more6_no s p F N r q d _ he _ h24 h14 h25 w

set_option maxRecDepth 100000 in
theorem more_lifted (os : Os) (started : os.Started) (H : Type) (enc : TypeId × Value → H) :
    ReturnsInHanded {} Try.checked os 6 .any (Rows.coresMoreSpec.pre6 enc Try.prog Try.f6 Rows.coresMoreRow.domain false) (Rows.coresMoreSpec.post enc Try.prog Try.f6 false true false false) := by
  refine returnsInHanded_of_change (C := Try.checked) own started (by kernel_rfl) Try.func6
    (ChangeSpec.witness6 (enc := enc) (C := Try.checked) false ⟨#[], #[.agg #[.int .i64 0, .int .i64 0], .agg #[.int .u64 0, .int .u64 0, .int .u64 0, .int .u64 0, .int .i64 0, .int .i64 0, .int .i64 0], .agg #[.int .u64 0, .int .u64 0, .int .u64 0, .int .u64 0]], []⟩ 8 (by kernel_rfl) (by kernel_rfl) (by kernel_rfl) (by kernel_rfl)) ?_
  intro W base args ds gs before hval0 hW _ _
  have hval : ∀ (j : Nat) t v, Try.f6.params[j]? = some t → args[j]? = some v → Value.okWide Try.prog W .any base t v := hval0
  have hW' := hW
  obtain ⟨p, q, hA0, hV, rfl, hfz, hnd⟩ := hW
  have hA : DataW.TrodAll enc Try.prog W 0 (fun _ => true) true Try.f6.params.toList args.toList ds p := hA0
  rw [Try.params6] at hA hval
  obtain ⟨v0, v1, v2, d0, d1, d2, p0, p1, p2, rfl, rfl, rfl, h0, h1, h2⟩ := trodAll_three hA
  obtain ⟨l, rfl, _⟩ := lay_arg (hval 0 23 v0 rfl rfl) h0
  obtain ⟨x, rfl, _⟩ := wish_arg (hval 1 45 v1 rfl rfl) h1
  obtain ⟨N, _, rfl⟩ := bits_arg (hval 2 40 v2 rfl rfl) h2
  refine (more6_any l x N W).mono fun e W' ⟨he, hb⟩ => ⟨_, he, ?_⟩
  exact law_post laidOut (by kernel_rfl) rfl Try.underlying4 rfl (fun ds h => by match ds, h with | [_, _, _], _ => rfl) hW' hb.below0

theorem coresMore_holds : Rows.CoresMoreSaid :=
  OpenClaim.holds_of_wide 6 Try.f6 rfl rfl rfl rfl rfl rfl rfl ⟨rfl, rfl, rfl, rfl, rfl⟩ rfl rfl rfl rfl rfl (by kernel_rfl) Try.func6 (by kernel_rfl)
    (of_decide_eq_true (by kernel_rfl)) (by unfold Func.isWrapper; first | (rw [if_pos (by decide +kernel)]; kernel_rfl) | (rw [if_neg (by decide +kernel)]; exact ⟨rfl, rfl⟩))
    (fun os started H enc _ => more_lifted os started H enc)

#print axioms coresMore_holds

end Go.Proofs.Ytcefadbnmpjeiaa
