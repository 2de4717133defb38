/- The reference's Bound returns how many blocks there may be: for all numbers of zones and pages. -/
import Derived.Test.YtnobgbndgjfiaaaGeoBound
namespace Go.Proofs.Ytnobgbndgjfiaaa
open Go.RowKit GeoPure

theorem refBound_any (z p : Int) (w : World) : Calls Try.prog 27 #[.int .i64 z, .int .i64 p] w fun e w' => e = .returned (.int .i64 (bnd z p)) ∧ w = w' := by
  by_cases a1 : z < 11
  · have HB : Hid (bnd z p = 0) := by
      show bnd z p = 0
      simp [bnd, zin]; omega
    have d1 : decide (z < 11) = true := by simp [a1]
    go_enter Try.func27, Try.ntmps27
    go_wp2
    go_ret
    exact ⟨by rw [HB.out]; rfl, rfl⟩
  have d1 : decide (z < 11) = false := by simp [a1]
  by_cases a2 : 24 < z
  · have HB : Hid (bnd z p = 0) := by
      show bnd z p = 0
      simp [bnd, zin]; omega
    have d2 : decide (24 < z) = true := by simp [a2]
    go_enter Try.func27, Try.ntmps27
    go_wp2
    go_ret
    exact ⟨by rw [HB.out]; rfl, rfl⟩
  have d2 : decide (24 < z) = false := by simp [a2]
  by_cases a3 : p < 4
  · have HB : Hid (bnd z p = 0) := by
      show bnd z p = 0
      simp [bnd, pin]; omega
    have d3 : decide (p < 4) = true := by simp [a3]
    go_enter Try.func27, Try.ntmps27
    go_wp2
    go_ret
    exact ⟨by rw [HB.out]; rfl, rfl⟩
  have d3 : decide (p < 4) = false := by simp [a3]
  by_cases a4 : 16 < p
  · have HB : Hid (bnd z p = 0) := by
      show bnd z p = 0
      simp [bnd, pin]; omega
    have d4 : decide (16 < p) = true := by simp [a4]
    go_enter Try.func27, Try.ntmps27
    go_wp2
    go_ret
    exact ⟨by rw [HB.out]; rfl, rfl⟩
  have d4 : decide (16 < p) = false := by simp [a4]
  have HB : Hid (bnd z p = best z p 64) := by
    show bnd z p = best z p 64
    unfold bnd
    rw [if_pos (by simp [zin, pin]; omega)]
  have hr := prod_range (z := z) (p := p) (by omega)
  obtain ⟨hr1, hr2⟩ := hr
  have hw : IntKind.i64.wrap ((z - 7) * p) = (z - 7) * p := IntWalk.i64_in _ (by omega)
  go_enter Try.func27, Try.ntmps27
  go_wp2
  clear d1 d2 d3 d4
  go_loop [5, 6] (fun m i => ∃ k : Nat, k ≤ 64 ∧ m = .int .i64 (best z p k) ∧ i = .int .i64 ((k : Int) + 1)) (fun _ i => 65 - (intOf i).toNat)
  case atStart => exact ⟨0, by omega, rfl, rfl⟩
  case round =>
    obtain ⟨k, hk, rfl, rfl⟩ := hrel
    by_cases hlt : k < 64
    · have HX : Hid (best z p (k + 1) = if ok z p ((k : Int) + 1) then (k : Int) + 1 else best z p k) := rfl
      have HK : Hid (((k + 1 : Nat) : Int) = (k : Int) + 1) := by
        show ((k + 1 : Nat) : Int) = (k : Int) + 1
        omega
      have hn : 1 ≤ (k : Int) + 1 ∧ (k : Int) + 1 ≤ 64 := by omega
      have hk2 : k + 1 ≤ 64 := by omega
      have hm : 65 - (intOf (.int .i64 ((k : Int) + 1 + 1))).toNat < 65 - (intOf (.int .i64 ((k : Int) + 1))).toNat := by simp [intOf]; omega
      have HM := Lib.hid hm
      clear hm hk hlt
      generalize best z p k = b at *
      generalize (k : Int) + 1 = n at *
      obtain ⟨hn1, hn2⟩ := hn
      have HT := Lib.hid (refTables_any n (by omega) (by omega))
      have ht : 0 ≤ (n + 3) / 4 ∧ (n + 3) / 4 ≤ 64 := by omega
      unfold ok at HX
      generalize (n + 3) / 4 = t at HT HX ht
      obtain ⟨ht1, ht2⟩ := ht
      by_cases c1 : t ≤ p
      · have d1 : decide (t ≤ p) = true := by simp [c1]
        by_cases c2 : 2 * (n + t) ≤ (z - 7) * p
        · have HK2 : Hid (best z p (k + 1) = n) := by
            show best z p (k + 1) = n
            rw [HX.out, if_pos]
            simp only [c1, decide_true, Bool.true_and, decide_eq_true_eq]
            omega
          clear HX
          go_wp2_with fail
          refine (HT.out _).mono ?_
          rintro e w' ⟨rfl, rfl⟩
          go_wp2_with fail
          refine (HT.out _).mono ?_
          rintro e w' ⟨rfl, rfl⟩
          go_wp2
          go_round
          case rel => exact ⟨k + 1, hk2, by rw [HK2.out], by rw [HK.out]⟩
          case measure => exact HM.out
        · have HK2 : Hid (best z p (k + 1) = b) := by
            show best z p (k + 1) = b
            rw [HX.out, if_neg]
            simp only [c1, decide_true, Bool.true_and, decide_eq_true_eq]
            omega
          clear HX
          go_wp2_with fail
          refine (HT.out _).mono ?_
          rintro e w' ⟨rfl, rfl⟩
          go_wp2_with fail
          refine (HT.out _).mono ?_
          rintro e w' ⟨rfl, rfl⟩
          go_wp2
          go_round
          case rel => exact ⟨k + 1, hk2, by rw [HK2.out], by rw [HK.out]⟩
          case measure => exact HM.out
      · have d1 : decide (t ≤ p) = false := by simp [c1]
        have HK2 : Hid (best z p (k + 1) = b) := by
          show best z p (k + 1) = b
          rw [HX.out, if_neg]
          simp [c1]
        clear HX
        go_wp2_with fail
        refine (HT.out _).mono ?_
        rintro e w' ⟨rfl, rfl⟩
        go_wp2
        go_round
        case rel => exact ⟨k + 1, hk2, by rw [HK2.out], by rw [HK.out]⟩
        case measure => exact HM.out
    · obtain rfl : k = 64 := by omega
      clear hk hlt
      go_wp2
      go_ret
      exact ⟨by rw [HB.out]; rfl, rfl⟩
end Go.Proofs.Ytnobgbndgjfiaaa
