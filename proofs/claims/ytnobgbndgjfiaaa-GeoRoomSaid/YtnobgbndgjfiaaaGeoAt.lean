/- geo.At returns an address' page: for each geometry whose zones and pages may be, and all addresses. -/
import Derived.Test.YtnobgbndgjfiaaaGeoHeld
namespace Go.Proofs.Ytnobgbndgjfiaaa
open Go.RowKit GeoPure

def isat (z p a : Int) : Bool := decide (1 ≤ a) && decide (a ≤ (z - 2) * p)
def atz (z p a : Int) : Int := if isat z p a then (a - 1) / p else 0
def atp (z p a : Int) : Int := if isat z p a then (a - 1) % p else 0

theorem at_any (z p x a : Int) (h : 11 ≤ z ∧ z ≤ 24 ∧ 4 ≤ p ∧ p ≤ 16) (h0 : 0 ≤ a) (h1 : a ≤ 4294967295) (w : World) :
    Calls Try.prog 34 #[.agg #[.int .i64 z, .int .i64 p, .int .i64 x], .int .u32 a] w fun e w' => e = .returned (.tuple #[.int .i64 (atz z p a), .int .i64 (atp z p a), .bool (isat z p a)]) ∧ Below w.heap.size w w' := by
  obtain ⟨z1, z2, p1, p2⟩ := h
  by_cases c : a = 0
  · subst c
    go_enter Try.func34, Try.ntmps34
    go_wp2_with fail
    go_quiet (fail)
    go_wp2
    go_ret3
    exact ⟨by simp [atz, atp, isat], below_drewN ((Below.refl _ _).alloc (Nat.le_refl _) _) _⟩
  have HL := Lib.hid (fun B w0 W h => held (log_any z p x z1 z2) (B := B) (z := z) (p := p) (x := x) (w0 := w0) (W := W) h)
  have m1 : (0 : Int) ≤ (z - 2) * p := Int.mul_nonneg (by omega) (by omega)
  have m2 : (z - 2) * p ≤ (22 : Int) * 16 := Int.mul_le_mul (by omega) (by omega) (by omega) (by omega)
  have d0 : (a == 0) = false := by simpa using c
  have f1 : IntKind.u64.wrap a = a := IntWalk.u64_in _ (by omega)
  have f2 : IntKind.u64.wrap ((z - 2) * p) = (z - 2) * p := IntWalk.u64_in _ (by omega)
  have f3 : IntKind.i64.wrap ((z - 2) * p) = (z - 2) * p := IntWalk.i64_in _ (by omega)
  by_cases c2 : (z - 2) * p < a
  · have d1 : decide ((z - 2) * p < a) = true := by simp [c2]
    have HP : Hid (isat z p a = false) := by
      show isat z p a = false
      simp [isat]; omega
    clear c2 c h1 m1 m2
    go_enter Try.func34, Try.ntmps34
    go_wp2_with fail
    obtain ⟨wo, hwo⟩ : ∃ W, W = w.alloc (.cells #[.int .i64 z, .int .i64 p, .int .i64 x] 46) := ⟨_, rfl⟩
    rw [← hwo]
    obtain ⟨k0, k1, k2, ko⟩ := box_new hwo
    clear hwo
    go_region_held3 (fun w' => (w'.cell? ⟨w.heap.size, 0, none⟩ = some (.int .i64 z) ∧ w'.cell? ⟨w.heap.size, 1, none⟩ = some (.int .i64 p) ∧ w'.cell? ⟨w.heap.size, 2, none⟩ = some (.int .i64 x) ∧ Over w.heap.size w w')) (first | exact ⟨k0, k1, k2, ko⟩ | exact ⟨k0, k1, k2, ko.drew⟩ | assumption) (first | (go_at_call 30; refine (HL.out w.heap.size w _ ?_).mono ?_; (first | exact ⟨k0, k1, k2, ko⟩ | exact ⟨k0, k1, k2, ko.drew⟩ | assumption); rintro e w' ⟨rfl, hw⟩))
    rename_i hHeld
    clear f1 f2 f3 d0 d1 hw
    go_wp2
    go_ret3
    exact ⟨by rw [atz, atp, HP.out]; simp, hHeld.2.2.2.2⟩
  · have d1 : decide ((z - 2) * p < a) = false := by simp [c2]
    have HP : Hid (isat z p a = true) := by
      show isat z p a = true
      simp [isat]; omega
    have f4 : IntKind.u32.wrap (a - 1) = a - 1 := IntWalk.u32_in _ (by omega)
    have f5 : IntKind.i64.wrap (a - 1) = a - 1 := IntWalk.i64_in _ (by omega)
    have f6 : 0 ≤ a - 1 := by omega
    have HQ : Hid (wrap64 ((a - 1).tdiv p) = (a - 1) / p) := (IntWalk.i64_left _).symm.trans (IntWalk.i64_quo _ _ (by omega))
    clear c2 c h1 m1 m2
    go_enter Try.func34, Try.ntmps34
    go_wp2_with fail
    obtain ⟨wo, hwo⟩ : ∃ W, W = w.alloc (.cells #[.int .i64 z, .int .i64 p, .int .i64 x] 46) := ⟨_, rfl⟩
    rw [← hwo]
    obtain ⟨k0, k1, k2, ko⟩ := box_new hwo
    clear hwo
    go_region_held3 (fun w' => (w'.cell? ⟨w.heap.size, 0, none⟩ = some (.int .i64 z) ∧ w'.cell? ⟨w.heap.size, 1, none⟩ = some (.int .i64 p) ∧ w'.cell? ⟨w.heap.size, 2, none⟩ = some (.int .i64 x) ∧ Over w.heap.size w w')) (first | exact ⟨k0, k1, k2, ko⟩ | exact ⟨k0, k1, k2, ko.drew⟩ | assumption) (first | (go_at_call 30; refine (HL.out w.heap.size w _ ?_).mono ?_; (first | exact ⟨k0, k1, k2, ko⟩ | exact ⟨k0, k1, k2, ko.drew⟩ | assumption); rintro e w' ⟨rfl, hw⟩))
    rename_i hHeld
    clear f1 f2 f3 d0 d1 hw
    obtain ⟨g0, g1, g2, go⟩ := hHeld
    go_wp2_with fail
    go_quiet (fail)
    go_wp2
    go_ret3
    refine ⟨?_, go.2.trans (below_drewN (Below.refl _ _) _)⟩
    rw [atz, atp, HP.out]
    simp [HQ.out]
end Go.Proofs.Ytnobgbndgjfiaaa
