/- geo.within, geo.Table, geo.Tables and the reference's Tables return what the plain words say. -/
import Derived.Test.YtnobgbndgjfiaaaProg
import Derived.Test.YtnobgbndgjfiaaaMem
import Derived.WalkKit
import Derived.WalkLawsBesides
import Derived.Lib.Hide
namespace Go.Proofs.Ytnobgbndgjfiaaa
open Go.RowKit

theorem within_any (n a b : Int) (w : World) : Calls Try.prog 46 #[.int .i64 n, .int .i64 a, .int .i64 b] w fun e w' => e = .returned (.bool (decide (a ≤ n) && decide (n ≤ b))) ∧ w = w' := by
  by_cases h : a ≤ n
  · have hd : decide (a ≤ n) = true := by simp [h]
    go_enter Try.func46, Try.ntmps46
    go_wp2
    go_ret
    exact ⟨by simp [h], rfl⟩
  · have hd : decide (a ≤ n) = false := by simp [h]
    go_enter Try.func46, Try.ntmps46
    go_wp2
    go_ret
    exact ⟨by simp, rfl⟩

theorem within_is (n a b : Int) (β : Bool) (h : (decide (a ≤ n) && decide (n ≤ b)) = β) (w : World) : Calls Try.prog 46 #[.int .i64 n, .int .i64 a, .int .i64 b] w fun e w' => e = .returned (.bool β) ∧ w = w' := h ▸ within_any n a b w

theorem tables_any (b : Int) (h0 : 0 ≤ b) (h1 : b ≤ 1099511627776) (w : World) : Calls Try.prog 32 #[.int .i64 b] w fun e w' => e = .returned (.int .i64 ((b + 3) / 4)) ∧ w = w' := by
  go_enter Try.func32, Try.ntmps32
  go_wp2
  go_ret
  exact ⟨by first | rfl | simp <;> omega, rfl⟩

theorem refTables_any (b : Int) (h0 : 0 ≤ b) (h1 : b ≤ 1099511627776) (w : World) : Calls Try.prog 33 #[.int .i64 b] w fun e w' => e = .returned (.int .i64 ((b + 3) / 4)) ∧ w = w' := by
  by_cases h : 0 < b % 4
  · go_enter Try.func33, Try.ntmps33
    go_wp2
    go_ret
    exact ⟨by first | rfl | simp <;> omega, rfl⟩
  · go_enter Try.func33, Try.ntmps33
    go_wp2
    go_ret
    exact ⟨by first | rfl | simp <;> omega, rfl⟩

theorem table_any (b : Int) (h0 : 0 ≤ b) (h1 : b ≤ 1099511627776) (w : World) : Calls Try.prog 31 #[.int .i64 b] w fun e w' => e = .returned (.tuple #[.int .i64 (b / 4), .int .i64 (b % 4)]) ∧ w = w' := by
  go_enter Try.func31, Try.ntmps31
  go_wp2
  go_ret2
  exact ⟨by first | rfl | simp <;> omega, rfl⟩

theorem log_any (z p x : Int) (hz : 11 ≤ z) (hz' : z ≤ 24) (w : World) : Calls Try.prog 30 #[.agg #[.int .i64 z, .int .i64 p, .int .i64 x]] w fun e w' => e = .returned (.int .i64 (z - 2)) ∧ Below w.heap.size w w' := by
  go_enter Try.func30, Try.ntmps30
  go_wp2
  go_ret
  exact ⟨by first | rfl | simp <;> omega, (Below.refl _ _).alloc (Nat.le_refl _) _⟩
end Go.Proofs.Ytnobgbndgjfiaaa
