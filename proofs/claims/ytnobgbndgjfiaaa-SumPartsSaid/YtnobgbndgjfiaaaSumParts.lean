/- Added to, or put together of two sums, the sum is what it is at once, and the law platelayerlaw03.SumParts returns true: for every two slices of bytes, without a condition; both read behind the call as they read before. -/
import Derived.Test.YtnobgbndgjfiaaaSumPartsWalk
import Derived.Test.YtnobgbndgjfiaaaLaw
namespace Go.Proofs.Ytnobgbndgjfiaaa
open Go.ChangeShapes Go.WideShapes Go.ChangeAt Go.RowKit

set_option maxRecDepth 100000 in
theorem sumParts_lifted (os : Os) (started : os.Started) (H : Type) (enc : TypeId × Value → H) :
    ReturnsInHanded {} Try.checked os 4 .any (Rows.sumPartsSpec.pre6 enc Try.prog Try.f4 Rows.sumPartsRow.domain false) (Rows.sumPartsSpec.post enc Try.prog Try.f4 false true false false) := by
  refine returnsInHanded_of_change (C := Try.checked) own started (by kernel_rfl) Try.func4
    (ChangeSpec.witness6 (enc := enc) (C := Try.checked) false ⟨#[], #[.slice none 0 0, .slice none 0 0], []⟩ 8 (by kernel_rfl) (by kernel_rfl) (by kernel_rfl) (by kernel_rfl)) ?_
  intro W base args ds gs before hval0 hW _ _
  have hval : ∀ (j : Nat) t v, Try.f4.params[j]? = some t → args[j]? = some v → Value.okWide Try.prog W .any base t v := hval0
  have hW' : DataW.Whole enc Try.prog Try.f4.params.toList Rows.sumPartsSpec.vars false W args.toList ds gs before := hW
  obtain ⟨p, q, hA0, hV, hpq, _, _⟩ := hW
  have hlt : ∀ x ∈ before, x.block < W.heap.size := fun x hx => hW'.lt x hx
  have hA : DataW.TrodAll enc Try.prog W 0 (fun _ => true) true Try.f4.params.toList args.toList ds p := hA0
  rw [Try.params4] at hA hval
  obtain ⟨v0, vs0, d0, ds0, p0, q0, hargs0, rfl, rfl, h0, r0⟩ := trodAll_cons hA
  obtain ⟨v1, vs1, d1, ds1, p1, q1, hargs1, rfl, rfl, h1, r1⟩ := trodAll_cons r0
  obtain ⟨rfl, rfl, rfl⟩ := trodAll_nil r1
  subst hargs1
  obtain rfl : args = #[v0, v1] := by cases args; simp_all
  obtain ⟨rfl, rfl⟩ := trodVars_none hV
  subst hpq
  obtain ⟨A0, n0, c0, l0, rfl, hl0, hc0, hm0, hb0, hs0⟩ := open_bytes (hval 0 22 v0 rfl rfl) h0 (fun x hx => hlt x (by simp [hx]))
  obtain ⟨A1, n1, c1, l1, rfl, hl1, hc1, hm1, hb1, hs1⟩ := open_bytes (hval 1 22 v1 rfl rfl) h1 (fun x hx => hlt x (by simp [hx]))
  refine (partsLaw_any l0 l1 A0 A1 n0 c0 n1 c1 hl0 hc0 hm0 hb0 hl1 hc1 hm1 hb1 W hs0 hs1).mono fun e W' ⟨he, hb⟩ => ?_
  subst he
  exact ⟨_, rfl, law_post (by kernel_rfl) (by rw [Try.params4]; decide +kernel) rfl rfl hW' hb⟩

theorem sumParts_holds : Rows.SumPartsSaid :=
  OpenClaim.holds_of_wide 4 Try.f4 rfl rfl rfl rfl rfl rfl rfl ⟨rfl, rfl, rfl, rfl, rfl⟩ rfl rfl rfl rfl rfl (by kernel_rfl) Try.func4 (by kernel_rfl)
    (of_decide_eq_true (by kernel_rfl)) (by unfold Func.isWrapper; first | (rw [if_pos (by decide +kernel)]; kernel_rfl) | (rw [if_neg (by decide +kernel)]; exact ⟨rfl, rfl⟩))
    (fun os started H enc _ => sumParts_lifted os started H enc)
#print axioms sumParts_holds
end Go.Proofs.Ytnobgbndgjfiaaa
