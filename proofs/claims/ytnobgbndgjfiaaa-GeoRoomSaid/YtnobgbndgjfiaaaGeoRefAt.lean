/- The reference's At returns an address' page: for each geometry whose zones and pages may be, and all addresses. -/
import Derived.Test.YtnobgbndgjfiaaaGeoAt
namespace Go.Proofs.Ytnobgbndgjfiaaa
open Go.RowKit GeoPure

theorem at_hit {z p k j a : Int} (hp : 4 ≤ p) (hk : 0 ≤ k ∧ k ≤ z - 3) (hj : 0 ≤ j ∧ j < p) (h : k * p + j + 1 = a) : isat z p a = true ∧ atz z p a = k ∧ atp z p a = j := by
  have h1 : 0 ≤ k * p := Int.mul_nonneg (by omega) (by omega)
  have h2 : (k + 1) * p ≤ (z - 2) * p := Int.mul_le_mul_of_nonneg_right (by omega) (by omega)
  rw [Int.add_mul, Int.one_mul] at h2
  have h3 : isat z p a = true := by simp only [isat, Bool.and_eq_true, decide_eq_true_eq]; omega
  have h4 : a - 1 = j + k * p := by omega
  refine ⟨h3, ?_, ?_⟩
  · rw [atz, if_pos h3, h4, Int.add_mul_ediv_right _ _ (by omega), Int.ediv_eq_zero_of_lt hj.1 hj.2, Int.zero_add]
  · rw [atp, if_pos h3, h4, Int.add_mul_emod_self_right, Int.emod_eq_of_lt hj.1 hj.2]

theorem refAt_any (z p x a : Int) (h : 11 ≤ z ∧ z ≤ 24 ∧ 4 ≤ p ∧ p ≤ 16) (w : World) :
    Calls Try.prog 35 #[.agg #[.int .i64 z, .int .i64 p, .int .i64 x], .int .u32 a] w fun e w' => e = .returned (.tuple #[.int .i64 (atz z p a), .int .i64 (atp z p a), .bool (isat z p a)]) ∧ Below w.heap.size w w' := by
  have HOF := Lib.hid (fun zone page W => refOf_any z p x zone page h W)
  obtain ⟨z1, z2, p1, p2⟩ := h
  go_enter Try.func35, Try.ntmps35
  go_wp2_with fail
  obtain ⟨wo, hwo⟩ : ∃ W, W = w.alloc (.cells #[.int .i64 z, .int .i64 p, .int .i64 x] 50) := ⟨_, rfl⟩
  rw [← hwo]
  have kw := box_new hwo
  clear hwo
  go_loopw [7] (fun i wr => ∃ k : Int, 0 ≤ k ∧ k ≤ z - 2 ∧ i = .int .i64 k ∧ Hid (a ≤ 0 ∨ k * p < a) ∧ (wr.cell? ⟨w.heap.size, 0, none⟩ = some (.int .i64 z) ∧ wr.cell? ⟨w.heap.size, 1, none⟩ = some (.int .i64 p) ∧ wr.cell? ⟨w.heap.size, 2, none⟩ = some (.int .i64 x) ∧ Over w.heap.size w wr)) (fun i _ => (z - intOf i).toNat)
  case atStart => exact ⟨0, by omega, by omega, rfl, by simp [Hid]; omega, kw⟩
  case round =>
    clear kw
    obtain ⟨k, hk0, hk, rfl, HK, g0, g1, g2, ho⟩ := hrel
    by_cases hlt : k < z - 2
    · go_wp2_with fail
      obtain ⟨wi, rfl⟩ : ∃ W, W = wr := ⟨_, rfl⟩
      go_loopw [8] (fun i wr => ∃ j : Int, 0 ≤ j ∧ j ≤ p ∧ i = .int .i64 j ∧ Hid (a ≤ 0 ∨ k * p + j < a) ∧ (wr.cell? ⟨w.heap.size, 0, none⟩ = some (.int .i64 z) ∧ wr.cell? ⟨w.heap.size, 1, none⟩ = some (.int .i64 p) ∧ wr.cell? ⟨w.heap.size, 2, none⟩ = some (.int .i64 x) ∧ Over w.heap.size w wr)) (fun i _ => (p - intOf i).toNat)
      case atStart => exact ⟨0, by omega, by omega, rfl, by rw [Int.add_zero]; exact HK, g0, g1, g2, ho⟩
      case round =>
        clear g0 g1 g2 ho HK
        obtain ⟨j, hj0, hj, rfl, HJ, g0, g1, g2, ho⟩ := hrel
        by_cases hjl : j < p
        · have HPL : Hid (place z p k j = k * p + j + 1) := if_pos (by omega)
          have hc := held (HOF.out k j) ⟨g0, g1, g2, ho⟩
          by_cases hit : k * p + j + 1 = a
          · obtain ⟨r1, r2, r3⟩ := at_hit (z := z) p1 ⟨hk0, by omega⟩ ⟨hj0, hjl⟩ hit
            have HR := Lib.hid (show isat z p a = true ∧ atz z p a = k ∧ atp z p a = j from ⟨r1, r2, r3⟩)
            have heq : place z p k j = a := by rw [HPL.out]; exact hit
            rw [heq] at hc
            have HC := Lib.hid hc
            clear r1 r2 r3 hit hc heq
            go_wp2_with fail
            refine HC.out.mono ?_
            rintro e w2 ⟨rfl, _, _, _, ho2⟩
            go_wp2
            go_ret3
            exact ⟨by rw [HR.out.1, HR.out.2.1, HR.out.2.2]; rfl, ho2.2⟩
          · have HJ' : Hid (a ≤ 0 ∨ k * p + (j + 1) < a) := by
              have := HJ.out
              show a ≤ 0 ∨ k * p + (j + 1) < a
              omega
            have hne : (place z p k j == a) = false := by rw [HPL.out]; simpa using hit
            have HC := Lib.hid hc
            clear hit hc
            generalize place z p k j = v at HC hne
            go_wp2_with fail
            refine HC.out.mono ?_
            rintro e w2 ⟨rfl, g0', g1', g2', ho2⟩
            go_wp2
            go_roundw
            case rel => exact ⟨j + 1, by omega, by omega, rfl, HJ', g0', g1', g2', ho2⟩
            case measure => simp [intOf]; omega
        · have HK' : Hid (a ≤ 0 ∨ (k + 1) * p < a) := by
            have := HJ.out
            show a ≤ 0 ∨ (k + 1) * p < a
            obtain rfl : j = p := by omega
            rw [Int.add_mul, Int.one_mul]
            exact this
          go_wp2
          go_roundw
          case rel => exact ⟨k + 1, by omega, by omega, rfl, HK', g0, g1, g2, ho⟩
          case measure => simp [intOf]; omega
    · have HR : Hid (isat z p a = false) := by
        have := HK.out
        show isat z p a = false
        obtain rfl : k = z - 2 := by omega
        simp [isat]
        omega
      go_wp2
      go_ret3
      exact ⟨by rw [atz, atp, HR.out]; rfl, ho.2⟩
end Go.Proofs.Ytnobgbndgjfiaaa
