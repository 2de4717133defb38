/- The sum of any bytes, as the program tells it, is the sum that the reference tells, and the law platelayerlaw03.SumTells returns true: for every slice of bytes, without a condition; the slice reads behind the call as it read before. -/
import Derived.Test.YtnobgbndgjfiaaaSumTellsWalk
import Derived.Test.YtnobgbndgjfiaaaLaw
namespace Go.Proofs.Ytnobgbndgjfiaaa
open Go.ChangeShapes Go.WideShapes Go.ChangeAt Go.RowKit

set_option maxRecDepth 100000 in
theorem sumTells_lifted (os : Os) (started : os.Started) (H : Type) (enc : TypeId × Value → H) :
    ReturnsInHanded {} Try.checked os 3 .any (Rows.sumTellsSpec.pre6 enc Try.prog Try.f3 Rows.sumTellsRow.domain false) (Rows.sumTellsSpec.post enc Try.prog Try.f3 false true false false) := by
  refine returnsInHanded_of_change (C := Try.checked) own started (by kernel_rfl) Try.func3
    (ChangeSpec.witness6 (enc := enc) (C := Try.checked) false ⟨#[], #[.slice none 0 0], []⟩ 8 (by kernel_rfl) (by kernel_rfl) (by kernel_rfl) (by kernel_rfl)) ?_
  intro W base args ds gs before hval0 hW _ _
  have hval : ∀ (j : Nat) t v, Try.f3.params[j]? = some t → args[j]? = some v → Value.okWide Try.prog W .any base t v := hval0
  have hW' : DataW.Whole enc Try.prog Try.f3.params.toList Rows.sumTellsSpec.vars false W args.toList ds gs before := hW
  obtain ⟨p, q, hA0, hV, hpq, _, _⟩ := hW
  have hlt : ∀ x ∈ before, x.block < W.heap.size := fun x hx => hW'.lt x hx
  have hA : DataW.TrodAll enc Try.prog W 0 (fun _ => true) true Try.f3.params.toList args.toList ds p := hA0
  rw [Try.params3] at hA hval
  obtain ⟨v0, vs0, d0, ds0, p0, q0, hargs, rfl, rfl, h0, r0⟩ := trodAll_cons hA
  obtain ⟨rfl, rfl, rfl⟩ := trodAll_nil r0
  obtain rfl : args = #[v0] := by cases args; simp_all
  obtain ⟨rfl, rfl⟩ := trodVars_none hV
  subst hpq
  obtain ⟨A, n, c, l, rfl, hl, hc, hmax, hby, hs⟩ := open_bytes (hval 0 22 v0 rfl rfl) h0 (fun x hx => hlt x (by simp [hx]))
  refine (tells_any l A n c hl hc hmax hby W hs).mono fun e W' ⟨he, hb⟩ => ?_
  subst he
  exact ⟨_, rfl, law_post (by kernel_rfl) (by rw [Try.params3]; decide +kernel) rfl rfl hW' hb⟩

theorem sumTells_holds : Rows.SumTellsSaid :=
  OpenClaim.holds_of_wide 3 Try.f3 rfl rfl rfl rfl rfl rfl rfl ⟨rfl, rfl, rfl, rfl, rfl⟩ rfl rfl rfl rfl rfl (by kernel_rfl) Try.func3 (by kernel_rfl)
    (of_decide_eq_true (by kernel_rfl)) (by unfold Func.isWrapper; first | (rw [if_pos (by decide +kernel)]; kernel_rfl) | (rw [if_neg (by decide +kernel)]; exact ⟨rfl, rfl⟩))
    (fun os started H enc _ => sumTells_lifted os started H enc)
#print axioms sumTells_holds
end Go.Proofs.Ytnobgbndgjfiaaa
