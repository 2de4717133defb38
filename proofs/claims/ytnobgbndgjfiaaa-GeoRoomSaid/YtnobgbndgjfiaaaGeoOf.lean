/- geo.Of and the reference's Of return a page's address: for each geometry whose zones and pages may be, and all zones and pages. -/
import Derived.Test.YtnobgbndgjfiaaaGeoRight
namespace Go.Proofs.Ytnobgbndgjfiaaa
open Go.RowKit GeoPure

/-- A page's address. -/
def place (z p zone page : Int) : Int := if (0 ≤ zone ∧ zone ≤ z - 3) ∧ (0 ≤ page ∧ page ≤ p - 1) then zone * p + page + 1 else 0

theorem place_range {z p zone page : Int} (h : 11 ≤ z ∧ z ≤ 24 ∧ 4 ≤ p ∧ p ≤ 16) : 0 ≤ place z p zone page ∧ place z p zone page ≤ 1000 := by
  unfold place
  split
  · rename_i g
    have h1 : (0 : Int) ≤ zone * p := Int.mul_nonneg (by omega) (by omega)
    have h2 : zone * p ≤ (21 : Int) * 16 := Int.mul_le_mul (by omega) (by omega) (by omega) (by omega)
    omega
  · omega

theorem of_any (z p x zone page : Int) (h : 11 ≤ z ∧ z ≤ 24 ∧ 4 ≤ p ∧ p ≤ 16) (w : World) :
    Calls Try.prog 36 #[.agg #[.int .i64 z, .int .i64 p, .int .i64 x], .int .i64 zone, .int .i64 page] w fun e w' => e = .returned (.int .u32 (place z p zone page)) ∧ Below w.heap.size w w' := by
  obtain ⟨z1, z2, p1, p2⟩ := h
  have HL := Lib.hid (log_any z p x z1 z2)
  by_cases c1 : 0 ≤ zone ∧ zone ≤ z - 3
  · have HW := Lib.hid (within_is zone 0 (z - 2 - 1) true (by simp; omega))
    by_cases c2 : 0 ≤ page ∧ page ≤ p - 1
    · have HV := Lib.hid (within_is page 0 (p - 1) true (by simp; omega))
      have HP : Hid (place z p zone page = zone * p + page + 1) := if_pos ⟨c1, c2⟩
      have h1 : (0 : Int) ≤ zone * p := Int.mul_nonneg (by omega) (by omega)
      have h2 : zone * p ≤ (21 : Int) * 16 := Int.mul_le_mul (by omega) (by omega) (by omega) (by omega)
      have hw : IntKind.i64.wrap (zone * p) = zone * p := IntWalk.i64_in _ (by omega)
      obtain ⟨c3, c4⟩ := c1
      obtain ⟨c5, c6⟩ := c2
      go_enter Try.func36, Try.ntmps36
      go_wp2_with fail
      refine (HL.out _).mono ?_
      rintro e w1 ⟨rfl, hb⟩
      have d1 := hb.cell (p := ⟨w.heap.size, 1, none⟩) (by simp)
      have hb' := ((Below.refl w.heap.size w).alloc (Nat.le_refl _) (.cells #[.int .i64 z, .int .i64 p, .int .i64 x] 46)).trans (hb.mono (by simp))
      go_wp2_with fail
      refine (HW.out _).mono ?_
      rintro e w' ⟨rfl, rfl⟩
      go_wp2_with fail
      refine (HV.out _).mono ?_
      rintro e w' ⟨rfl, rfl⟩
      go_wp2
      go_ret
      refine ⟨?_, hb'⟩
      rw [HP.out]
      simp
      try omega
    · have HV := Lib.hid (within_is page 0 (p - 1) false (by simp; omega))
      have HP : Hid (place z p zone page = 0) := if_neg (fun h => c2 h.2)
      clear c2
      obtain ⟨c3, c4⟩ := c1
      go_enter Try.func36, Try.ntmps36
      go_wp2_with fail
      refine (HL.out _).mono ?_
      rintro e w1 ⟨rfl, hb⟩
      have d1 := hb.cell (p := ⟨w.heap.size, 1, none⟩) (by simp)
      have hb' := ((Below.refl w.heap.size w).alloc (Nat.le_refl _) (.cells #[.int .i64 z, .int .i64 p, .int .i64 x] 46)).trans (hb.mono (by simp))
      go_wp2_with fail
      refine (HW.out _).mono ?_
      rintro e w' ⟨rfl, rfl⟩
      go_wp2_with fail
      refine (HV.out _).mono ?_
      rintro e w' ⟨rfl, rfl⟩
      go_wp2
      go_ret
      exact ⟨by rw [HP.out]; rfl, hb'⟩
  · have HW := Lib.hid (within_is zone 0 (z - 2 - 1) false (by simp; omega))
    have HP : Hid (place z p zone page = 0) := if_neg (fun h => c1 h.1)
    clear c1
    go_enter Try.func36, Try.ntmps36
    go_wp2_with fail
    refine (HL.out _).mono ?_
    rintro e w1 ⟨rfl, hb⟩
    have hb' := ((Below.refl w.heap.size w).alloc (Nat.le_refl _) (.cells #[.int .i64 z, .int .i64 p, .int .i64 x] 46)).trans (hb.mono (by simp))
    go_wp2_with fail
    refine (HW.out _).mono ?_
    rintro e w' ⟨rfl, rfl⟩
    go_wp2
    go_ret
    exact ⟨by rw [HP.out]; rfl, hb'⟩

theorem refOf_any (z p x zone page : Int) (h : 11 ≤ z ∧ z ≤ 24 ∧ 4 ≤ p ∧ p ≤ 16) (w : World) :
    Calls Try.prog 37 #[.agg #[.int .i64 z, .int .i64 p, .int .i64 x], .int .i64 zone, .int .i64 page] w fun e w' => e = .returned (.int .u32 (place z p zone page)) ∧ Below w.heap.size w w' := by
  obtain ⟨z1, z2, p1, p2⟩ := h
  by_cases a1 : zone < 0
  · have HP : Hid (place z p zone page = 0) := if_neg (fun h => by omega)
    have d1 : decide (zone < 0) = true := by simp [a1]
    go_enter Try.func37, Try.ntmps37
    go_wp2
    go_ret
    exact ⟨by rw [HP.out]; rfl, (Below.refl _ _).alloc (Nat.le_refl _) _⟩
  have d1 : decide (zone < 0) = false := by simp [a1]
  by_cases a2 : z - 3 < zone
  · have HP : Hid (place z p zone page = 0) := if_neg (fun h => by omega)
    have d2 : decide (z - 3 < zone) = true := by simp [a2]
    go_enter Try.func37, Try.ntmps37
    go_wp2
    go_ret
    exact ⟨by rw [HP.out]; rfl, (Below.refl _ _).alloc (Nat.le_refl _) _⟩
  have d2 : decide (z - 3 < zone) = false := by simp [a2]
  by_cases a3 : page < 0
  · have HP : Hid (place z p zone page = 0) := if_neg (fun h => by omega)
    have d3 : decide (page < 0) = true := by simp [a3]
    go_enter Try.func37, Try.ntmps37
    go_wp2
    go_ret
    exact ⟨by rw [HP.out]; rfl, (Below.refl _ _).alloc (Nat.le_refl _) _⟩
  have d3 : decide (page < 0) = false := by simp [a3]
  by_cases a4 : p - 1 < page
  · have HP : Hid (place z p zone page = 0) := if_neg (fun h => by omega)
    have d4 : decide (p - 1 < page) = true := by simp [a4]
    go_enter Try.func37, Try.ntmps37
    go_wp2
    go_ret
    exact ⟨by rw [HP.out]; rfl, (Below.refl _ _).alloc (Nat.le_refl _) _⟩
  have d4 : decide (p - 1 < page) = false := by simp [a4]
  have HP : Hid (place z p zone page = zone * p + page + 1) := if_pos (by omega)
  have h1 : (0 : Int) ≤ zone * p := Int.mul_nonneg (by omega) (by omega)
  have h2 : zone * p ≤ (21 : Int) * 16 := Int.mul_le_mul (by omega) (by omega) (by omega) (by omega)
  have hw : IntKind.i64.wrap (zone * p) = zone * p := IntWalk.i64_in _ (by omega)
  go_enter Try.func37, Try.ntmps37
  go_wp2
  go_ret
  refine ⟨?_, (Below.refl _ _).alloc (Nat.le_refl _) _⟩
  rw [HP.out]
  simp
  try omega
end Go.Proofs.Ytnobgbndgjfiaaa
