/- Each link of a chain is one of the session, its Seq is 1 more than that of the link ahead, behind the last one there is none, and the law platelayerlaw14.ChainLinks returns true: for every session, Seq and slice of heads, without a condition; all read behind the call as they read before. -/
import Derived.Test.YtnobgbndgjfiaaaChainLinksWalk
import Derived.Test.YtnobgbndgjfiaaaLawHeads
namespace Go.Proofs.Ytnobgbndgjfiaaa
open Go.ChangeShapes Go.WideShapes Go.ChangeAt Go.RowKit

set_option maxRecDepth 100000 in
theorem chainLinks_lifted (os : Os) (started : os.Started) (H : Type) (enc : TypeId × Value → H) :
    ReturnsInHanded {} Try.checked os 8 .any (Rows.chainLinksSpec.pre6 enc Try.prog Try.f8 Rows.chainLinksRow.domain false) (Rows.chainLinksSpec.post enc Try.prog Try.f8 false true false false) := by
  refine returnsInHanded_of_change (C := Try.checked) own started (by kernel_rfl) Try.func8
    (ChangeSpec.witness6 (enc := enc) (C := Try.checked) false ⟨#[], #[.int .u32 0, .int .u32 0, .slice none 0 0], []⟩ 8 (by kernel_rfl) (by kernel_rfl) (by kernel_rfl) (by kernel_rfl)) ?_
  intro W base args ds gs before hval0 hW _ _
  have hval : ∀ (j : Nat) t v, Try.f8.params[j]? = some t → args[j]? = some v → Value.okWide Try.prog W .any base t v := hval0
  have hW' : DataW.Whole enc Try.prog Try.f8.params.toList Rows.chainLinksSpec.vars false W args.toList ds gs before := hW
  obtain ⟨p, q, hA0, hV, hpq, _, _⟩ := hW
  have hlt : ∀ x ∈ before, x.block < W.heap.size := fun x hx => hW'.lt x hx
  have hA : DataW.TrodAll enc Try.prog W 0 (fun _ => true) true Try.f8.params.toList args.toList ds p := hA0
  rw [Try.params8] at hA hval
  obtain ⟨v0, vs0, d0, ds0, p0, q0, hargs0, rfl, rfl, h0, r0⟩ := trodAll_cons hA
  obtain ⟨v1, vs1, d1, ds1, p1, q1, hargs1, rfl, rfl, h1, r1⟩ := trodAll_cons r0
  obtain ⟨v2, vs2, d2, ds2, p2, q2, hargs2, rfl, rfl, h2, r2⟩ := trodAll_cons r1
  obtain ⟨rfl, rfl, rfl⟩ := trodAll_nil r2
  subst hargs1
  subst hargs2
  obtain rfl : args = #[v0, v1, v2] := by cases args; simp_all
  obtain ⟨rfl, rfl⟩ := trodVars_none hV
  subst hpq
  obtain ⟨a0, rfl, w0⟩ := open_u32 (hval 0 24 v0 rfl rfl) h0
  obtain ⟨a1, rfl, w1⟩ := open_u32 (hval 1 24 v1 rfl rfl) h1
  obtain ⟨A2, n2, c2, l2, rfl, hl2, hc2, hm2, hb2, hs2⟩ := open_heads (hval 2 32 v2 rfl rfl) h2 (fun x hx => hlt x (by simp [hx]))
  refine (chainLinks_any a0 a1 w1 l2 A2 n2 c2 hl2 hb2 (Nat.le_trans hc2 hm2) W hs2).mono fun e W' ⟨he, hb⟩ => ?_
  subst he
  exact ⟨_, rfl, law_post (by kernel_rfl) (by rw [Try.params8]; decide +kernel) rfl rfl hW' hb⟩

theorem chainLinks_holds : Rows.ChainLinksSaid :=
  OpenClaim.holds_of_wide 8 Try.f8 rfl rfl rfl rfl rfl rfl rfl ⟨rfl, rfl, rfl, rfl, rfl⟩ rfl rfl rfl rfl rfl (by kernel_rfl) Try.func8 (by kernel_rfl)
    (of_decide_eq_true (by kernel_rfl)) (by unfold Func.isWrapper; first | (rw [if_pos (by decide +kernel)]; kernel_rfl) | (rw [if_neg (by decide +kernel)]; exact ⟨rfl, rfl⟩))
    (fun os started H enc _ => chainLinks_lifted os started H enc)
#print axioms chainLinks_holds
end Go.Proofs.Ytnobgbndgjfiaaa
