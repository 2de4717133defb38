/- The law's own function awake of chapter 2 returns true. -/
import Derived.Test.YtnobgbndgjfiaaaGeoRefAt
namespace Go.Proofs.Ytnobgbndgjfiaaa
open Go.RowKit GeoPure

theorem geoAwake_any (w : World) : Calls Try.prog 25 #[] w fun e w' => e = .returned (.bool true) ∧ Below w.heap.size w w' := by
  have r : (11 : Int) ≤ 11 ∧ (11 : Int) ≤ 24 ∧ (4 : Int) ≤ 4 ∧ (4 : Int) ≤ 16 := by decide
  have HA := Lib.hid (fun W => at_any 11 4 6 6 r (by omega) (by omega) W)
  rw [show atz 11 4 6 = 1 from by decide, show atp 11 4 6 = 1 from by decide, show isat 11 4 6 = true from by decide] at HA
  have HT := Lib.hid (fun W => table_any 5 (by omega) (by omega) W)
  rw [show (5 : Int) / 4 = 1 from by decide, show (5 : Int) % 4 = 1 from by decide] at HT
  have HB := Lib.hid (fun W => bound_any 11 4 W)
  rw [show bnd 11 4 = 6 from by decide +kernel] at HB
  have HS := Lib.hid (fun W => tables_any 6 (by omega) (by omega) W)
  rw [show ((6 : Int) + 3) / 4 = 2 from by decide] at HS
  have HR := Lib.hid (fun W => right_any 11 4 6 W)
  rw [show right 11 4 6 = true from by decide +kernel] at HR
  have HQ := Lib.hid (fun W => right_any 11 4 7 W)
  rw [show right 11 4 7 = false from by decide +kernel] at HQ
  have HL := Lib.hid (fun W => log_any 11 4 6 (by omega) (by omega) W)
  rw [show (11 : Int) - 2 = 9 from by decide] at HL
  have HO := Lib.hid (fun W => of_any 11 4 6 1 1 r W)
  rw [show place 11 4 1 1 = 6 from by decide] at HO
  have HP := Lib.hid (fun W => of_any 11 4 6 9 0 r W)
  rw [show place 11 4 9 0 = 0 from by decide] at HP
  go_enter Try.func25, Try.ntmps25
  go_wp2_with fail
  obtain ⟨wo, hwo⟩ : ∃ W, W = w.alloc (.cells #[.int .i64 11, .int .i64 4, .int .i64 6] 46) := ⟨_, rfl⟩
  rw [← hwo]
  obtain ⟨k0, k1, k2, ko⟩ := box_new hwo
  clear hwo r
  refine (held HA.out ⟨k0, k1, k2, ko⟩).mono ?_
  clear k0 k1 k2 ko HA
  rintro e w0 ⟨rfl, k0, k1, k2, ko⟩
  go_wp2_with fail
  refine (held_same HT.out ⟨k0, k1, k2, ko⟩).mono ?_
  clear k0 k1 k2 ko HT
  rintro e w1 ⟨rfl, k0, k1, k2, ko⟩
  go_wp2_with fail
  refine (held_same HB.out ⟨k0, k1, k2, ko⟩).mono ?_
  clear k0 k1 k2 ko HB
  rintro e w2 ⟨rfl, k0, k1, k2, ko⟩
  go_wp2_with fail
  refine (held_same HS.out ⟨k0, k1, k2, ko⟩).mono ?_
  clear k0 k1 k2 ko HS
  rintro e w3 ⟨rfl, k0, k1, k2, ko⟩
  go_wp2_with fail
  refine (held HR.out ⟨k0, k1, k2, ko⟩).mono ?_
  clear k0 k1 k2 ko HR
  rintro e w4 ⟨rfl, k0, k1, k2, ko⟩
  go_wp2_with fail
  refine (held HQ.out ⟨k0, k1, k2, ko⟩).mono ?_
  clear k0 k1 k2 ko HQ
  rintro e w5 ⟨rfl, k0, k1, k2, ko⟩
  go_wp2_with fail
  refine (held HL.out ⟨k0, k1, k2, ko⟩).mono ?_
  clear k0 k1 k2 ko HL
  rintro e w6 ⟨rfl, k0, k1, k2, ko⟩
  go_wp2_with fail
  refine (held HO.out ⟨k0, k1, k2, ko⟩).mono ?_
  clear k0 k1 k2 ko HO
  rintro e w7 ⟨rfl, k0, k1, k2, ko⟩
  go_wp2_with fail
  refine (held HP.out ⟨k0, k1, k2, ko⟩).mono ?_
  clear k0 k1 k2 ko HP
  rintro e w8 ⟨rfl, k0, k1, k2, ko⟩
  go_wp2
  go_ret
  exact ⟨rfl, ko.2⟩
end Go.Proofs.Ytnobgbndgjfiaaa
