/- The chain of more heads begins with that of fewer ones, heads that are no links change nothing but places, one that is left out ends it there if no other has its Seq, and the law platelayerlaw14.ChainMore returns true: for every session, Seq, two slices of heads and int, without a condition; all read behind the call as they read before. -/
import Derived.Test.YtnobgbndgjfiaaaChainMoreWalk
import Derived.Test.YtnobgbndgjfiaaaLawHeads
namespace Go.Proofs.Ytnobgbndgjfiaaa
open Go.ChangeShapes Go.WideShapes Go.ChangeAt Go.RowKit

set_option maxRecDepth 100000 in
theorem chainMore_lifted (os : Os) (started : os.Started) (H : Type) (enc : TypeId × Value → H) :
    ReturnsInHanded {} Try.checked os 9 .any (Rows.chainMoreSpec.pre6 enc Try.prog Try.f9 Rows.chainMoreRow.domain false) (Rows.chainMoreSpec.post enc Try.prog Try.f9 false true false false) := by
  refine returnsInHanded_of_change (C := Try.checked) own started (by kernel_rfl) Try.func9
    (ChangeSpec.witness6 (enc := enc) (C := Try.checked) false ⟨#[], #[.int .u32 0, .int .u32 0, .slice none 0 0, .slice none 0 0, .int .i64 0], []⟩ 8 (by kernel_rfl) (by kernel_rfl) (by kernel_rfl) (by kernel_rfl)) ?_
  intro W base args ds gs before hval0 hW _ _
  have hval : ∀ (j : Nat) t v, Try.f9.params[j]? = some t → args[j]? = some v → Value.okWide Try.prog W .any base t v := hval0
  have hW' : DataW.Whole enc Try.prog Try.f9.params.toList Rows.chainMoreSpec.vars false W args.toList ds gs before := hW
  obtain ⟨p, q, hA0, hV, hpq, _, _⟩ := hW
  have hlt : ∀ x ∈ before, x.block < W.heap.size := fun x hx => hW'.lt x hx
  have hA : DataW.TrodAll enc Try.prog W 0 (fun _ => true) true Try.f9.params.toList args.toList ds p := hA0
  rw [Try.params9] at hA hval
  obtain ⟨v0, vs0, d0, ds0, p0, q0, hargs0, rfl, rfl, h0, r0⟩ := trodAll_cons hA
  obtain ⟨v1, vs1, d1, ds1, p1, q1, hargs1, rfl, rfl, h1, r1⟩ := trodAll_cons r0
  obtain ⟨v2, vs2, d2, ds2, p2, q2, hargs2, rfl, rfl, h2, r2⟩ := trodAll_cons r1
  obtain ⟨v3, vs3, d3, ds3, p3, q3, hargs3, rfl, rfl, h3, r3⟩ := trodAll_cons r2
  obtain ⟨v4, vs4, d4, ds4, p4, q4, hargs4, rfl, rfl, h4, r4⟩ := trodAll_cons r3
  obtain ⟨rfl, rfl, rfl⟩ := trodAll_nil r4
  subst hargs1
  subst hargs2
  subst hargs3
  subst hargs4
  obtain rfl : args = #[v0, v1, v2, v3, v4] := by cases args; simp_all
  obtain ⟨rfl, rfl⟩ := trodVars_none hV
  subst hpq
  obtain ⟨a0, rfl, w0⟩ := open_u32 (hval 0 24 v0 rfl rfl) h0
  obtain ⟨a1, rfl, w1⟩ := open_u32 (hval 1 24 v1 rfl rfl) h1
  obtain ⟨A2, n2, c2, l2, rfl, hl2, hc2, hm2, hb2, hs2⟩ := open_heads (hval 2 32 v2 rfl rfl) h2 (fun x hx => hlt x (by simp [hx]))
  obtain ⟨A3, n3, c3, l3, rfl, hl3, hc3, hm3, hb3, hs3⟩ := open_heads (hval 3 32 v3 rfl rfl) h3 (fun x hx => hlt x (by simp [hx]))
  obtain ⟨a4, rfl, rfl, rfl, _⟩ := open_int Try.underlying3 (hval 4 3 v4 rfl rfl) h4
  refine (chainMore_any a0 a1 w1 l2 l3 A2 A3 n2 c2 n3 c3 hl2 hc2 hm2 hl3 a4 W hs2 hs3).mono fun e W' ⟨he, hb⟩ => ?_
  subst he
  exact ⟨_, rfl, law_post (by kernel_rfl) (by rw [Try.params9]; decide +kernel) rfl rfl hW' hb⟩

theorem chainMore_holds : Rows.ChainMoreSaid :=
  OpenClaim.holds_of_wide 9 Try.f9 rfl rfl rfl rfl rfl rfl rfl ⟨rfl, rfl, rfl, rfl, rfl⟩ rfl rfl rfl rfl rfl (by kernel_rfl) Try.func9 (by kernel_rfl)
    (of_decide_eq_true (by kernel_rfl)) (by unfold Func.isWrapper; first | (rw [if_pos (by decide +kernel)]; kernel_rfl) | (rw [if_neg (by decide +kernel)]; exact ⟨rfl, rfl⟩))
    (fun os started H enc _ => chainMore_lifted os started H enc)
#print axioms chainMore_holds
end Go.Proofs.Ytnobgbndgjfiaaa
