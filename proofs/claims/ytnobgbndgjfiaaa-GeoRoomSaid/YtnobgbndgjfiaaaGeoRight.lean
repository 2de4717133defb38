/- geo.Right and the reference's Right return which geometry may be: for all geometries. -/
import Derived.Test.YtnobgbndgjfiaaaGeoRefBound
import Derived.Deep.RegionHeld3
import Derived.Deep.QuietTactic
import Derived.BigQuiet
import Derived.BigRegion
import Derived.Laws.StructEq
namespace Go.Proofs.Ytnobgbndgjfiaaa
open Go.RowKit GeoPure

theorem quiet_one {P : Program} {f : FuncId} {args : Array Value} {w : World} {n : Nat} {v : Value}
    (h : Calls P f args (w.drewN n) fun e w' => e = .returned v ∧ w.drewN n = w') : Calls P f args (w.drewN n) fun e w'' => e = .returned v ∧ ∃ m, w'' = w.drewN m :=
  h.mono fun _ _ ⟨he, hm⟩ => ⟨he, n, hm.symm⟩

theorem below_drewN {B : Nat} {a w : World} (h : Below B a w) (n : Nat) : Below B a (w.drewN n) := ⟨h.os, h.tape, h.output, h.size, h.block⟩

theorem refRight_any (z p x : Int) (w : World) : Calls Try.prog 29 #[.agg #[.int .i64 z, .int .i64 p, .int .i64 x]] w fun e w' => e = .returned (.bool (right z p x)) ∧ Below w.heap.size w w' := by
  have HB := Lib.hid (refBound_any z p)
  have HX : Hid (right z p x = (decide (1 ≤ x) && decide (x ≤ bnd z p))) := rfl
  generalize bnd z p = b at HB HX
  by_cases c : 1 ≤ x
  · have d : decide (1 ≤ x) = true := by simp [c]
    go_enter Try.func29, Try.ntmps29
    go_wp2_with fail
    go_quiet ((go_at_call 27; exact quiet_one (HB.out _)))
    go_wp2
    go_ret
    exact ⟨by rw [HX.out]; simp [c], below_drewN ((Below.refl _ _).alloc (Nat.le_refl _) _) _⟩
  · have d : decide (1 ≤ x) = false := by simp [c]
    go_enter Try.func29, Try.ntmps29
    go_wp2_with fail
    go_quiet ((go_at_call 27; exact quiet_one (HB.out _)))
    go_wp2
    go_ret
    exact ⟨by rw [HX.out]; simp; omega, below_drewN ((Below.refl _ _).alloc (Nat.le_refl _) _) _⟩

theorem right_any (z p x : Int) (w : World) : Calls Try.prog 28 #[.agg #[.int .i64 z, .int .i64 p, .int .i64 x]] w fun e w' => e = .returned (.bool (right z p x)) ∧ Below w.heap.size w w' := by
  have HB := Lib.hid (bound_any z p)
  have HX : Hid (right z p x = (decide (1 ≤ x) && decide (x ≤ bnd z p))) := rfl
  generalize bnd z p = b at HB HX
  by_cases c : x ≤ b
  · go_enter Try.func28, Try.ntmps28
    go_wp2_with fail
    go_quiet ((go_at_call 26; exact quiet_one (HB.out _)))
    go_wp2
    go_ret
    exact ⟨by rw [HX.out]; simp [c], below_drewN ((Below.refl _ _).alloc (Nat.le_refl _) _) _⟩
  · go_enter Try.func28, Try.ntmps28
    go_wp2_with fail
    go_quiet ((go_at_call 26; exact quiet_one (HB.out _)))
    go_wp2
    go_ret
    exact ⟨by rw [HX.out]; simp [c], below_drewN ((Below.refl _ _).alloc (Nat.le_refl _) _) _⟩
end Go.Proofs.Ytnobgbndgjfiaaa
