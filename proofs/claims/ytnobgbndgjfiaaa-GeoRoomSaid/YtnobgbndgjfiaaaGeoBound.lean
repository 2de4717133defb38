/- geo.Bound and the reference's Bound return how many blocks there may be: for all numbers of zones and pages. -/
import Derived.Test.YtnobgbndgjfiaaaGeoSmall
import Derived.Test.YtnobgbndgjfiaaaGeoPure
namespace Go.Proofs.Ytnobgbndgjfiaaa
open Go.RowKit GeoPure

theorem bound_any (z p : Int) (w : World) : Calls Try.prog 26 #[.int .i64 z, .int .i64 p] w fun e w' => e = .returned (.int .i64 (bnd z p)) ∧ w = w' := by
  cases hz : zin z with
  | false =>
    have hb : bnd z p = 0 := by simp [bnd, hz]
    have HB := Lib.hid hb
    have HC := Lib.hid (within_is z 11 24 false hz)
    clear hz hb
    go_enter Try.func26, Try.ntmps26
    go_wp2_with fail
    refine (HC.out _).mono ?_
    rintro e w' ⟨rfl, rfl⟩
    go_wp2
    go_ret
    exact ⟨by rw [HB.out]; rfl, rfl⟩
  | true =>
    cases hp : pin p with
    | false =>
      have hb : bnd z p = 0 := by simp [bnd, hp]
      have HB := Lib.hid hb
      have HC := Lib.hid (within_is z 11 24 true hz)
      have HD := Lib.hid (within_is p 4 16 false hp)
      clear hz hb hp
      go_enter Try.func26, Try.ntmps26
      go_wp2_with fail
      refine (HC.out _).mono ?_
      rintro e w' ⟨rfl, rfl⟩
      go_wp2_with fail
      refine (HD.out _).mono ?_
      rintro e w' ⟨rfl, rfl⟩
      go_wp2
      go_ret
      exact ⟨by rw [HB.out]; rfl, rfl⟩
    | true =>
      have hb : bnd z p = best z p 64 := by simp [bnd, hz, hp]
      have hin : 11 ≤ z ∧ z ≤ 24 ∧ 4 ≤ p ∧ p ≤ 16 := by simpa [zin, pin, and_assoc] using (show (zin z && pin p) = true from by simp [hz, hp])
      have hr := prod_range hin
      obtain ⟨hz1, hz2, hp1, hp2⟩ := hin
      have HB := Lib.hid hb
      have HC := Lib.hid (within_is z 11 24 true hz)
      have HD := Lib.hid (within_is p 4 16 true hp)
      have hw : IntKind.i64.wrap ((z - 7) * p) = (z - 7) * p := IntWalk.i64_in _ (by omega)
      clear hz hb hp
      obtain ⟨hr1, hr2⟩ := hr
      go_enter Try.func26, Try.ntmps26
      go_wp2_with fail
      refine (HC.out _).mono ?_
      rintro e w' ⟨rfl, rfl⟩
      go_wp2_with fail
      refine (HD.out _).mono ?_
      rintro e w' ⟨rfl, rfl⟩
      go_wp2
      clear hw HC HD
      go_loop [22] (fun i => ∃ k : Nat, k ≤ 64 ∧ i = .int .i64 (64 - (k : Int)) ∧ Hid (best z p 64 = best z p k)) (fun i => 64 - (intOf i).toNat)
      case atStart => exact ⟨64, by omega, rfl, rfl⟩
      case round =>
        obtain ⟨k, hk, rfl, HK⟩ := hrel
        match k, hk, HK with
        | 0, hk, HK =>
          have HK' : Hid (bnd z p = 0) := HB.out.trans HK.out
          clear HK HB
          go_wp2
          go_ret
          exact ⟨by rw [HK'.out]; rfl, rfl⟩
        | k + 1, hk, HK =>
          have HX : best z p (k + 1) = if ok z p ((k : Int) + 1) then (k : Int) + 1 else best z p k := rfl
          have HK' := HK.out.trans HX
          have hi : (64 : Int) - ((k + 1 : Nat) : Int) = 64 - ((k : Int) + 1) := by omega
          have HR : Hid ((64 : Int) - ((k : Int) + 1) + 1 = 64 - (k : Int)) := by
            show (64 : Int) - ((k : Int) + 1) + 1 = 64 - (k : Int)
            omega
          rw [hi]
          have hn : 1 ≤ (k : Int) + 1 ∧ (k : Int) + 1 ≤ 64 := by omega
          have hk2 : k ≤ 64 := by omega
          have hm : 64 - (intOf (.int .i64 (64 - (k : Int)))).toNat < 64 - (intOf (.int .i64 (64 - ((k : Int) + 1)))).toNat := by simp [intOf]; omega
          have HM := Lib.hid hm
          clear HK HX hi hm hk
          generalize (k : Int) + 1 = n at *
          obtain ⟨hn1, hn2⟩ := hn
          have hs : (64 : Int) - (64 - n) = n := by omega
          have HT := Lib.hid (tables_any n (by omega) (by omega))
          have ht : 0 ≤ (n + 3) / 4 ∧ (n + 3) / 4 ≤ 64 := by omega
          unfold ok at HK'
          generalize (n + 3) / 4 = t at HT HK' ht
          obtain ⟨ht1, ht2⟩ := ht
          by_cases c1 : t ≤ p
          · by_cases c2 : n + t ≤ (z - 7) * p / 2
            · have HB' : Hid (bnd z p = n) := by
                show bnd z p = n
                rw [HB.out, HK']
                simp [c1, c2]
              have d1 : decide (t ≤ p) = true := by simp [c1]
              clear HK' HB
              go_wp2_with fail
              refine (HT.out _).mono ?_
              rintro e w' ⟨rfl, rfl⟩
              go_wp2
              go_ret
              exact ⟨by rw [HB'.out]; rfl, rfl⟩
            · have HK2 : Hid (best z p 64 = best z p k) := by
                show best z p 64 = best z p k
                rw [HK']
                simp [c1, c2]
              have d1 : decide (t ≤ p) = true := by simp [c1]
              clear HK'
              go_wp2_with fail
              refine (HT.out _).mono ?_
              rintro e w' ⟨rfl, rfl⟩
              go_wp2
              go_round
              case rel => exact ⟨k, hk2, by rw [HR.out], HK2⟩
              case measure => rw [HR.out]; exact HM.out
          · have HK2 : Hid (best z p 64 = best z p k) := by
              show best z p 64 = best z p k
              rw [HK']
              simp [c1]
            have d1 : decide (t ≤ p) = false := by simp [c1]
            clear HK'
            go_wp2_with fail
            refine (HT.out _).mono ?_
            rintro e w' ⟨rfl, rfl⟩
            go_wp2
            go_round
            case rel => exact ⟨k, hk2, by rw [HR.out], HK2⟩
            case measure => rw [HR.out]; exact HM.out
end Go.Proofs.Ytnobgbndgjfiaaa
