/- A geometry that can be read is three numbers. -/
import Derived.Test.YtnobgbndgjfiaaaLaw
import Derived.Lib.SmallJoins
namespace Go.Proofs.Ytnobgbndgjfiaaa
open Go.ChangeShapes Go.WideShapes Go.ChangeAt Go.RowKit

theorem cells46 : Try.prog.cellsOf 46 = 3 := by kernel_rfl

/-- A GEOMETRY THAT IS READ. -/
theorem open_geo {H : Type} {enc : TypeId × Value → H} {W : World} {b0 : Nat} {v : Value} {d : DataW H} {p : List MemPlace} (hv : Value.okWide Try.prog W .any b0 46 v) (h : DataW.Trod enc Try.prog W 0 (fun _ => true) true 46 v d p) :
    ∃ z y x : Int, v = .agg #[.int .i64 z, .int .i64 y, .int .i64 x] ∧ (-9223372036854775808 ≤ z ∧ z ≤ 9223372036854775807) ∧ (-9223372036854775808 ≤ y ∧ y ≤ 9223372036854775807) ∧ (-9223372036854775808 ≤ x ∧ x ≤ 9223372036854775807) := by
  obtain ⟨v0, v1, v2, y0, y1, y2, n, rfl, _, _, g0, g1, g2⟩ := Go.Joins.open_agg3 Try.underlying46 (by kernel_rfl) cells46 hv h
  obtain ⟨a0, h0, _, w0⟩ := DataW.trod_int Try.underlying3 g0
  obtain ⟨a1, h1, _, w1⟩ := DataW.trod_int Try.underlying3 g1
  obtain ⟨a2, h2, _, w2⟩ := DataW.trod_int Try.underlying3 g2
  simp at h0 h1 h2
  subst h0 h1 h2
  exact ⟨a0, a1, a2, rfl, bounds_i64 w0, bounds_i64 w1, bounds_i64 w2⟩
end Go.Proofs.Ytnobgbndgjfiaaa
