/-
  Of any layout and any wish: ranks' cores are apart, free, of the layout, and as many as were asked; who is refused gets none.
-/
import Derived.Test.YtcefadbnmpjeiaaDw
namespace Go.Proofs.Ytcefadbnmpjeiaa
open Go.ChangeShapes Go.WideShapes Go.ChangeAt Go.RowKit Go.Deep Go.Maps Go.Shelf

theorem refP_none {l : LayD} {x : WishD} (h : (refP l x).2 ≠ 0) : (refP l x).1 = [] := by
  unfold refP refA at *
  by_cases ho : okW l x
  · rw [if_pos ho] at h ⊢
    by_cases hc : ((l.order x.dist).filter (hasM x.free)).length < x.ranks.toNat * x.per.toNat
    · rw [if_pos hc]
    · rw [if_neg hc] at h; exact absurd rfl h
  · rw [if_neg ho]

theorem apart7_any (l : LayD) (x : WishD) (w : World) : Calls Try.prog 7 #[l.val, x.val] w fun e w' => e = .returned (.bool true) ∧ Fr (fun _ => False) w w' := by
  have h14 := fun W => own14_any l W
  have h25 := fun W => wish25_any x W
  have h24 := fun W => assign24_any l x W
  have h16 := fun W => all16_any l W
  rw [assign_ref] at h24
  by_cases he : (refP l x).2 = 0
  · have hok := (refP_ok he).1
    obtain ⟨hlen, Us, hp⟩ := apart_plain he
    obtain ⟨F, r, q, d⟩ := x
    obtain ⟨_, hr, hq⟩ := hok
    simp only at hr hq hlen hp
    obtain ⟨R, rfl⟩ : ∃ R : Nat, r = (R : Int) := ⟨r.toNat, by omega⟩
    obtain ⟨P, rfl⟩ : ∃ P : Nat, q = (P : Int) := ⟨q.toNat, by omega⟩
    simp only [Int.toNat_natCast] at hlen hp
    generalize (refP l ⟨F, (R : Int), (P : Int), d⟩).2 = ee at *
    generalize (refP l ⟨F, (R : Int), (P : Int), d⟩).1 = Ms at *
    generalize l.all = M at *
    obtain ⟨s, p⟩ := l
    exact apart7_yes s p F R P d Ms ee he M hlen (by omega) (by omega) Us hp h16 h14 h25 h24 w
  · have hn := refP_none he
    obtain ⟨F, r, q, d⟩ := x
    obtain ⟨s, p⟩ := l
    exact apart7_no s p F r q d _ _ he hn h14 h25 h24 w

set_option maxRecDepth 100000 in
theorem apart_lifted (os : Os) (started : os.Started) (H : Type) (enc : TypeId × Value → H) :
    ReturnsInHanded {} Try.checked os 7 .any (Rows.coresApartSpec.pre6 enc Try.prog Try.f7 Rows.coresApartRow.domain false) (Rows.coresApartSpec.post enc Try.prog Try.f7 false true false false) := by
  refine returnsInHanded_of_change (C := Try.checked) own started (by kernel_rfl) Try.func7
    (ChangeSpec.witness6 (enc := enc) (C := Try.checked) false ⟨#[], #[.agg #[.int .i64 0, .int .i64 0], .agg #[.int .u64 0, .int .u64 0, .int .u64 0, .int .u64 0, .int .i64 0, .int .i64 0, .int .i64 0]], []⟩ 8 (by kernel_rfl) (by kernel_rfl) (by kernel_rfl) (by kernel_rfl)) ?_
  intro W base args ds gs before hval0 hW _ _
  have hval : ∀ (j : Nat) t v, Try.f7.params[j]? = some t → args[j]? = some v → Value.okWide Try.prog W .any base t v := hval0
  have hW' := hW
  obtain ⟨p, q, hA0, hV, rfl, hfz, hnd⟩ := hW
  have hA : DataW.TrodAll enc Try.prog W 0 (fun _ => true) true Try.f7.params.toList args.toList ds p := hA0
  rw [Try.params7] at hA hval
  obtain ⟨v0, v1, d0, d1, p0, p1, rfl, rfl, rfl, h0, h1⟩ := trodAll_two hA
  obtain ⟨l, rfl, _⟩ := lay_arg (hval 0 23 v0 rfl rfl) h0
  obtain ⟨x, rfl, _⟩ := wish_arg (hval 1 45 v1 rfl rfl) h1
  refine (apart7_any l x W).mono fun e W' ⟨he, hb⟩ => ⟨_, he, ?_⟩
  exact law_post laidOut (by kernel_rfl) rfl Try.underlying4 rfl (fun ds h => by match ds, h with | [_, _], _ => rfl) hW' hb.below0

theorem coresApart_holds : Rows.CoresApartSaid :=
  OpenClaim.holds_of_wide 7 Try.f7 rfl rfl rfl rfl rfl rfl rfl ⟨rfl, rfl, rfl, rfl, rfl⟩ rfl rfl rfl rfl rfl (by kernel_rfl) Try.func7 (by kernel_rfl)
    (of_decide_eq_true (by kernel_rfl)) (by unfold Func.isWrapper; first | (rw [if_pos (by decide +kernel)]; kernel_rfl) | (rw [if_neg (by decide +kernel)]; exact ⟨rfl, rfl⟩))
    (fun os started H enc _ => apart_lifted os started H enc)

#print axioms coresApart_holds

end Go.Proofs.Ytcefadbnmpjeiaa
