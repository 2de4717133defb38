/- The law GeoAll returns true and leaves all memory that was there as it was: for every geometry. -/
import Derived.Test.YtnobgbndgjfiaaaGeoAwake
namespace Go.Proofs.Ytnobgbndgjfiaaa
open Go.RowKit GeoPure

theorem at_none {z p a : Int} (h : isat z p a = false) : atz z p a = 0 ∧ atp z p a = 0 := by simp [atz, atp, h]

set_option maxRecDepth 100000 in
set_option maxHeartbeats 1000000 in
theorem geoAll_any (z p x : Int) (w : World) :
    Calls Try.prog 13 #[.agg #[.int .i64 z, .int .i64 p, .int .i64 x]] w fun e w' => e = .returned (.bool true) ∧ Below w.heap.size w w' := by
  have HA := Lib.hid (fun B w0 W h => held geoAwake_any (B := B) (z := z) (p := p) (x := x) (w0 := w0) (W := W) h)
  have HS := Lib.hid (fun B w0 W h => held (refRight_any z p x) (B := B) (z := z) (p := p) (x := x) (w0 := w0) (W := W) h)
  have hin := fun h => in_of_right (z := z) (p := p) (x := x) h
  generalize right z p x = β at HS hin
  have HI := Lib.hid hin
  clear hin
  go_enter Try.func13, Try.ntmps13
  go_wp2_with fail
  obtain ⟨wo, hwo⟩ : ∃ W, W = w.alloc (.cells #[.int .i64 z, .int .i64 p, .int .i64 x] 46) := ⟨_, rfl⟩
  rw [← hwo]
  have kw := box_new hwo
  clear hwo
  refine (HA.out w.heap.size w wo kw).mono ?_
  clear kw HA
  rintro e w1 ⟨rfl, k0, k1, k2, ko⟩
  cases β with
  | false =>
    go_wp2_with fail
    refine (HS.out w.heap.size w _ ⟨k0, k1, k2, ko⟩).mono ?_
    rintro e w2 ⟨rfl, _, _, _, ho⟩
    go_wp2
    go_ret
    exact ⟨rfl, ho.2⟩
  | true =>
    have r := HI.out rfl
    have HR := Lib.hid r
    obtain ⟨z1, z2, p1, p2⟩ := r
    have HL := Lib.hid (fun B w0 W h => held (log_any z p x z1 z2) (B := B) (z := z) (p := p) (x := x) (w0 := w0) (W := W) h)
    clear HI
    go_wp2_with fail
    refine (HS.out w.heap.size w _ ⟨k0, k1, k2, ko⟩).mono ?_
    clear k0 k1 k2 ko HS
    rintro e w2 ⟨rfl, k0, k1, k2, ko⟩
    go_wp2_with fail
    refine (HL.out w.heap.size w _ ⟨k0, k1, k2, ko⟩).mono ?_
    clear k0 k1 k2 ko
    rintro e w3 ⟨rfl, k0, k1, k2, ko⟩
    go_wp2_with fail
    go_loopw [3, 22] (fun t i wr => ∃ k m : Int, 0 ≤ k ∧ k ≤ z - 2 ∧ Hid (m = k * p) ∧ 0 ≤ m ∧ m ≤ 352 ∧ t = .int .u32 m ∧ i = .int .i64 k ∧ (wr.cell? ⟨w.heap.size, 0, none⟩ = some (.int .i64 z) ∧ wr.cell? ⟨w.heap.size, 1, none⟩ = some (.int .i64 p) ∧ wr.cell? ⟨w.heap.size, 2, none⟩ = some (.int .i64 x) ∧ Over w.heap.size w wr)) (fun _ i _ => (z - intOf i).toNat)
    case atStart => exact ⟨0, 0, by omega, by omega, by simp [Hid], by omega, by omega, rfl, rfl, k0, k1, k2, ko⟩
    case round =>
      clear k0 k1 k2 ko
      obtain ⟨k, m, hk0, hk, HM, hm0, hm, rfl, rfl, k0, k1, k2, ko⟩ := hrel
      by_cases hlt : k < z - 2
      · have HK : Hid (m + p = (k + 1) * p ∧ m + p ≤ 352) := by
          have h1 := HM.out
          have h2 : (k + 1) * p ≤ (22 : Int) * 16 := Int.mul_le_mul (by omega) (by omega) (by omega) (by omega)
          refine ⟨?_, ?_⟩
          · rw [Int.add_mul, Int.one_mul, h1]
          · rw [Int.add_mul, Int.one_mul] at h2
            omega
        go_wp2_with fail
        obtain ⟨wi, rfl⟩ : ∃ W, W = wr := ⟨_, rfl⟩
        go_loopw [3, 27] (fun t i wr => ∃ j : Int, 0 ≤ j ∧ j ≤ p ∧ t = .int .u32 (m + j) ∧ i = .int .i64 j ∧ (wr.cell? ⟨w.heap.size, 0, none⟩ = some (.int .i64 z) ∧ wr.cell? ⟨w.heap.size, 1, none⟩ = some (.int .i64 p) ∧ wr.cell? ⟨w.heap.size, 2, none⟩ = some (.int .i64 x) ∧ Over w.heap.size w wr)) (fun _ i _ => (p - intOf i).toNat)
        case atStart => exact ⟨0, by omega, by omega, by rw [Int.add_zero], rfl, k0, k1, k2, ko⟩
        case round =>
          clear k0 k1 k2 ko
          obtain ⟨j, hj0, hj, rfl, rfl, k0, k1, k2, ko⟩ := hrel
          by_cases hjl : j < p
          · have hit : k * p + j + 1 = m + j + 1 := by rw [HM.out]
            obtain ⟨r1, r2, r3⟩ := at_hit (z := z) p1 ⟨hk0, by omega⟩ ⟨hj0, hjl⟩ hit
            have hat := fun B w0 W h => held (at_any z p x (m + j + 1) HR.out (by omega) (by omega)) (B := B) (z := z) (p := p) (x := x) (w0 := w0) (W := W) h
            rw [r1, r2, r3] at hat
            have hof := fun B w0 W h => held (of_any z p x k j HR.out) (B := B) (z := z) (p := p) (x := x) (w0 := w0) (W := W) h
            rw [show place z p k j = m + j + 1 from (if_pos (by omega)).trans hit] at hof
            have HT := Lib.hid hat
            have HO := Lib.hid hof
            clear hat hof hit r1 r2 r3
            go_wp2_with fail
            refine (HT.out w.heap.size w _ ⟨k0, k1, k2, ko⟩).mono ?_
            clear k0 k1 k2 ko HT
            rintro e w4 ⟨rfl, k0, k1, k2, ko⟩
            go_wp2_with fail
            refine (HO.out w.heap.size w _ ⟨k0, k1, k2, ko⟩).mono ?_
            clear k0 k1 k2 ko HO
            rintro e w5 ⟨rfl, k0, k1, k2, ko⟩
            go_wp2
            go_roundw
            case rel => exact ⟨j + 1, by omega, by omega, by rw [Int.add_assoc], rfl, k0, k1, k2, ko⟩
            case measure => simp [intOf]; omega
          · obtain rfl : j = p := by omega
            go_wp2
            go_roundw
            case rel => exact ⟨k + 1, m + j, by omega, by omega, HK.out.1, by omega, HK.out.2, rfl, rfl, k0, k1, k2, ko⟩
            case measure => simp [intOf]; omega
      · obtain rfl : k = z - 2 := by omega
        have hno : isat z p (m + 1) = false := by simp [isat, ← HM.out]; omega
        have hno0 : isat z p 0 = false := by simp [isat]
        have hat := fun B w0 W h => held (at_any z p x (m + 1) HR.out (by omega) (by omega)) (B := B) (z := z) (p := p) (x := x) (w0 := w0) (W := W) h
        rw [hno, (at_none hno).1, (at_none hno).2] at hat
        have hat0 := fun B w0 W h => held (at_any z p x 0 HR.out (by omega) (by omega)) (B := B) (z := z) (p := p) (x := x) (w0 := w0) (W := W) h
        rw [hno0, (at_none hno0).1, (at_none hno0).2] at hat0
        have hof := fun B w0 W h => held (of_any z p x (z - 2) 0 HR.out) (B := B) (z := z) (p := p) (x := x) (w0 := w0) (W := W) h
        rw [show place z p (z - 2) 0 = 0 from if_neg (by omega)] at hof
        have hof2 := fun B w0 W h => held (of_any z p x 0 p HR.out) (B := B) (z := z) (p := p) (x := x) (w0 := w0) (W := W) h
        rw [show place z p 0 p = 0 from if_neg (by omega)] at hof2
        have hof3 := fun B w0 W h => held (of_any z p x (-1) 0 HR.out) (B := B) (z := z) (p := p) (x := x) (w0 := w0) (W := W) h
        rw [show place z p (-1) 0 = 0 from if_neg (by omega)] at hof3
        have HT := Lib.hid hat
        have HT0 := Lib.hid hat0
        have HO := Lib.hid hof
        have HO2 := Lib.hid hof2
        have HO3 := Lib.hid hof3
        clear hat hat0 hof hof2 hof3 hno hno0
        go_wp2_with fail
        refine (HT.out w.heap.size w _ ⟨k0, k1, k2, ko⟩).mono ?_
        clear k0 k1 k2 ko HT
        rintro e w4 ⟨rfl, k0, k1, k2, ko⟩
        go_wp2_with fail
        refine (HT0.out w.heap.size w _ ⟨k0, k1, k2, ko⟩).mono ?_
        clear k0 k1 k2 ko HT0
        rintro e w5 ⟨rfl, k0, k1, k2, ko⟩
        go_wp2_with fail
        clear HR HM hk0 hk hlt hm0 hm z1 z2 p1 p2
        refine wp_region_held_drew (S := fun w' => (w'.cell? ⟨w.heap.size, 0, none⟩ = some (.int .i64 z) ∧ w'.cell? ⟨w.heap.size, 1, none⟩ = some (.int .i64 p) ∧ w'.cell? ⟨w.heap.size, 2, none⟩ = some (.int .i64 x) ∧ Over w.heap.size w w')) (by kernel_rfl) ⟨k0, k1, k2, ko.drew⟩ (fun hHeld => ?_)
        clear k0 k1 k2 ko
        refine wpAnyH_take (i := 0) (v := ?_) rfl (by kernel_rfl) (by kernel_rfl) (by kernel_rfl) (fun _ _ _ h => h) (Or.inl ⟨by rfl, ?_⟩) (by assumption) ?_
        rotate_left
        · (intro w hSw; (try dsimp only [List.getElem_toArray, List.getElem_cons_zero, List.getElem_cons_succ] at hSw ⊢); go_simp; try with_reducible rfl)
        try simp only [List.getElem_toArray, List.getElem_cons_zero, Act.put, List.setIfInBounds_toArray, List.set_cons_zero, List.set_cons_succ]
        refine wpAnyH_take (i := 1) (v := ?_) rfl (by kernel_rfl) (by kernel_rfl) (by kernel_rfl) (fun _ _ _ h => h) (Or.inl ⟨by rfl, ?_⟩) (by assumption) ?_
        rotate_left
        · (intro w hSw; (try dsimp only [List.getElem_toArray, List.getElem_cons_zero, List.getElem_cons_succ] at hSw ⊢); go_simp; try with_reducible rfl)
        try simp only [List.getElem_toArray, List.getElem_cons_zero, List.getElem_cons_succ, Act.put, List.setIfInBounds_toArray, List.set_cons_zero, List.set_cons_succ]
        refine wpAnyH_take (i := 2) (v := ?_) rfl (by kernel_rfl) (by kernel_rfl) (by kernel_rfl) (fun _ _ _ h => h) (Or.inl ⟨by rfl, ?_⟩) (by assumption) ?_
        rotate_left
        · (intro w hSw; (try dsimp only [List.getElem_toArray, List.getElem_cons_zero, List.getElem_cons_succ] at hSw ⊢); go_simp; try with_reducible rfl)
        try simp only [List.getElem_toArray, List.getElem_cons_zero, List.getElem_cons_succ, Act.put, List.setIfInBounds_toArray, List.set_cons_zero, List.set_cons_succ]
        refine wpAnyH_take (i := 3) (v := ?_) rfl (by kernel_rfl) (by kernel_rfl) (by kernel_rfl) (fun _ _ _ h => h) (Or.inl ⟨by rfl, ?_⟩) (by assumption) ?_
        rotate_left
        · (intro w hSw; (try dsimp only [List.getElem_toArray, List.getElem_cons_zero, List.getElem_cons_succ] at hSw ⊢); go_simp; try with_reducible rfl)
        try simp only [List.getElem_toArray, List.getElem_cons_zero, List.getElem_cons_succ, Act.put, List.setIfInBounds_toArray, List.set_cons_zero, List.set_cons_succ]
        refine wpAnyH_take (i := 4) (v := ?_) rfl (by kernel_rfl) (by kernel_rfl) (by kernel_rfl) (fun _ _ _ h => h) (Or.inl ⟨by rfl, ?_⟩) (by assumption) ?_
        rotate_left
        · (intro w hSw; (try dsimp only [List.getElem_toArray, List.getElem_cons_zero, List.getElem_cons_succ] at hSw ⊢); go_simp; try with_reducible rfl)
        try simp only [List.getElem_toArray, List.getElem_cons_zero, List.getElem_cons_succ, Act.put, List.setIfInBounds_toArray, List.set_cons_zero, List.set_cons_succ]
        refine wpAnyH_take (i := 5) (v := ?_) rfl (by kernel_rfl) (by kernel_rfl) (by kernel_rfl) (fun _ _ _ h => h) (Or.inl ⟨by rfl, ?_⟩) (by assumption) ?_
        rotate_left
        · (intro w hSw; (try dsimp only [List.getElem_toArray, List.getElem_cons_zero, List.getElem_cons_succ] at hSw ⊢); go_simp; try with_reducible rfl)
        try simp only [List.getElem_toArray, List.getElem_cons_zero, List.getElem_cons_succ, Act.put, List.setIfInBounds_toArray, List.set_cons_zero, List.set_cons_succ]
        refine wpAnyH_take (i := 6) (v := ?_) rfl (by kernel_rfl) (by kernel_rfl) (by kernel_rfl) (fun _ _ _ h => h) (Or.inl ⟨by rfl, ?_⟩) (by assumption) ?_
        rotate_left
        · (intro w hSw; (try dsimp only [List.getElem_toArray, List.getElem_cons_zero, List.getElem_cons_succ] at hSw ⊢); go_simp; try with_reducible rfl)
        try simp only [List.getElem_toArray, List.getElem_cons_zero, List.getElem_cons_succ, Act.put, List.setIfInBounds_toArray, List.set_cons_zero, List.set_cons_succ]
        refine wpAnyH_take (i := 7) (v := ?_) rfl (by kernel_rfl) (by kernel_rfl) (by kernel_rfl) (fun _ _ _ h => h) (Or.inl ⟨by rfl, ?_⟩) (by assumption) ?_
        rotate_left
        · (intro w hSw; (try dsimp only [List.getElem_toArray, List.getElem_cons_zero, List.getElem_cons_succ] at hSw ⊢); go_simp; try with_reducible rfl)
        try simp only [List.getElem_toArray, List.getElem_cons_zero, List.getElem_cons_succ, Act.put, List.setIfInBounds_toArray, List.set_cons_zero, List.set_cons_succ]
        refine wpAnyH_take (i := 8) (v := ?_) rfl (by kernel_rfl) (by kernel_rfl) (by kernel_rfl) (fun _ _ _ h => h) (Or.inl ⟨by rfl, ?_⟩) (by assumption) ?_
        rotate_left
        · (intro w hSw; (try dsimp only [List.getElem_toArray, List.getElem_cons_zero, List.getElem_cons_succ] at hSw ⊢); go_simp; try with_reducible rfl)
        try simp only [List.getElem_toArray, List.getElem_cons_zero, List.getElem_cons_succ, Act.put, List.setIfInBounds_toArray, List.set_cons_zero, List.set_cons_succ]
        refine wpAnyH_ready (rs := [9]) (by kernel_rfl) (by simp) ?_
        refine AllReadyH.cons rfl (fun K hK => ?_) AllReadyH.nil
        rw [if_pos (by rfl)]
        (try dsimp only [List.getElem_toArray, List.getElem_cons_zero, List.getElem_cons_succ])
        go_simp
        refine (HL.out w.heap.size w _ (by assumption)).mono ?_; clear hHeld; rintro e w' ⟨rfl, hw⟩
        refine hK.out _ _ (by assumption) (fun hHeld => ?_)
        clear hK K
        try simp only [List.getElem_toArray, List.getElem_cons_zero, List.getElem_cons_succ, Act.put, List.setIfInBounds_toArray, List.set_cons_zero, List.set_cons_succ]
        refine wpAnyH_ready (rs := [10]) (by kernel_rfl) (by simp) ?_
        refine AllReadyH.cons rfl (fun K hK => ?_) AllReadyH.nil
        rw [if_pos (by rfl)]
        (try dsimp only [List.getElem_toArray, List.getElem_cons_zero, List.getElem_cons_succ])
        go_simp
        refine (HO.out w.heap.size w _ (by assumption)).mono ?_; clear hHeld; rintro e w' ⟨rfl, hw⟩
        refine hK.out _ _ (by assumption) (fun hHeld => ?_)
        clear hK K
        try simp only [List.getElem_toArray, List.getElem_cons_zero, List.getElem_cons_succ, Act.put, List.setIfInBounds_toArray, List.set_cons_zero, List.set_cons_succ]
        refine wpAnyH_take (i := 11) (v := ?_) rfl (by kernel_rfl) (by kernel_rfl) (by kernel_rfl) (fun _ _ _ h => h) (Or.inl ⟨by rfl, ?_⟩) (by assumption) ?_
        rotate_left
        · (intro w hSw; (try dsimp only [List.getElem_toArray, List.getElem_cons_zero, List.getElem_cons_succ] at hSw ⊢); go_simp; try with_reducible rfl)
        try simp only [List.getElem_toArray, List.getElem_cons_zero, List.getElem_cons_succ, Act.put, List.setIfInBounds_toArray, List.set_cons_zero, List.set_cons_succ]
        refine wpAnyH_take (i := 12) (v := ?_) rfl (by kernel_rfl) (by kernel_rfl) (by kernel_rfl) (fun _ _ _ h => h) (Or.inl ⟨by rfl, ?_⟩) (by assumption) ?_
        rotate_left
        · (intro w hSw; (try dsimp only [List.getElem_toArray, List.getElem_cons_zero, List.getElem_cons_succ] at hSw ⊢); go_simp; try with_reducible rfl)
        try simp only [List.getElem_toArray, List.getElem_cons_zero, List.getElem_cons_succ, Act.put, List.setIfInBounds_toArray, List.set_cons_zero, List.set_cons_succ]
        refine wpAnyH_take (i := 13) (v := ?_) rfl (by kernel_rfl) (by kernel_rfl) (by kernel_rfl) (fun _ _ _ h => h) (Or.inl ⟨by rfl, ?_⟩) (by assumption) ?_
        rotate_left
        · (intro w hSw; (try dsimp only [List.getElem_toArray, List.getElem_cons_zero, List.getElem_cons_succ] at hSw ⊢); go_simp; try with_reducible rfl)
        try simp only [List.getElem_toArray, List.getElem_cons_zero, List.getElem_cons_succ, Act.put, List.setIfInBounds_toArray, List.set_cons_zero, List.set_cons_succ]
        refine wpAnyH_take (i := 14) (v := ?_) rfl (by kernel_rfl) (by kernel_rfl) (by kernel_rfl) (fun _ _ _ h => h) (Or.inl ⟨by rfl, ?_⟩) (by assumption) ?_
        rotate_left
        · (intro w hSw; (try dsimp only [List.getElem_toArray, List.getElem_cons_zero, List.getElem_cons_succ] at hSw ⊢); go_simp; try with_reducible rfl)
        try simp only [List.getElem_toArray, List.getElem_cons_zero, List.getElem_cons_succ, Act.put, List.setIfInBounds_toArray, List.set_cons_zero, List.set_cons_succ]
        refine wpAnyH_take (i := 15) (v := ?_) rfl (by kernel_rfl) (by kernel_rfl) (by kernel_rfl) (fun _ _ _ h => h) (Or.inl ⟨by rfl, ?_⟩) (by assumption) ?_
        rotate_left
        · (intro w hSw; (try dsimp only [List.getElem_toArray, List.getElem_cons_zero, List.getElem_cons_succ] at hSw ⊢); go_simp; try with_reducible rfl)
        try simp only [List.getElem_toArray, List.getElem_cons_zero, List.getElem_cons_succ, Act.put, List.setIfInBounds_toArray, List.set_cons_zero, List.set_cons_succ]
        refine wpAnyH_take (i := 16) (v := ?_) rfl (by kernel_rfl) (by kernel_rfl) (by kernel_rfl) (fun _ _ _ h => h) (Or.inl ⟨by rfl, ?_⟩) (by assumption) ?_
        rotate_left
        · (intro w hSw; (try dsimp only [List.getElem_toArray, List.getElem_cons_zero, List.getElem_cons_succ] at hSw ⊢); go_simp; try with_reducible rfl)
        try simp only [List.getElem_toArray, List.getElem_cons_zero, List.getElem_cons_succ, Act.put, List.setIfInBounds_toArray, List.set_cons_zero, List.set_cons_succ]
        refine wpAnyH_ready (rs := [17]) (by kernel_rfl) (by simp) ?_
        refine AllReadyH.cons rfl (fun K hK => ?_) AllReadyH.nil
        rw [if_pos (by rfl)]
        (try dsimp only [List.getElem_toArray, List.getElem_cons_zero, List.getElem_cons_succ])
        go_simp
        refine (HO2.out w.heap.size w _ (by assumption)).mono ?_; clear hHeld; rintro e w' ⟨rfl, hw⟩
        refine hK.out _ _ (by assumption) (fun hHeld => ?_)
        clear hK K
        try simp only [List.getElem_toArray, List.getElem_cons_zero, List.getElem_cons_succ, Act.put, List.setIfInBounds_toArray, List.set_cons_zero, List.set_cons_succ]
        refine wpAnyH_take (i := 18) (v := ?_) rfl (by kernel_rfl) (by kernel_rfl) (by kernel_rfl) (fun _ _ _ h => h) (Or.inl ⟨by rfl, ?_⟩) (by assumption) ?_
        rotate_left
        · (intro w hSw; (try dsimp only [List.getElem_toArray, List.getElem_cons_zero, List.getElem_cons_succ] at hSw ⊢); go_simp; try with_reducible rfl)
        try simp only [List.getElem_toArray, List.getElem_cons_zero, List.getElem_cons_succ, Act.put, List.setIfInBounds_toArray, List.set_cons_zero, List.set_cons_succ]
        refine wpAnyH_take (i := 19) (v := ?_) rfl (by kernel_rfl) (by kernel_rfl) (by kernel_rfl) (fun _ _ _ h => h) (Or.inl ⟨by rfl, ?_⟩) (by assumption) ?_
        rotate_left
        · (intro w hSw; (try dsimp only [List.getElem_toArray, List.getElem_cons_zero, List.getElem_cons_succ] at hSw ⊢); go_simp; try with_reducible rfl)
        try simp only [List.getElem_toArray, List.getElem_cons_zero, List.getElem_cons_succ, Act.put, List.setIfInBounds_toArray, List.set_cons_zero, List.set_cons_succ]
        refine wpAnyH_take (i := 20) (v := ?_) rfl (by kernel_rfl) (by kernel_rfl) (by kernel_rfl) (fun _ _ _ h => h) (Or.inl ⟨by rfl, ?_⟩) (by assumption) ?_
        rotate_left
        · (intro w hSw; (try dsimp only [List.getElem_toArray, List.getElem_cons_zero, List.getElem_cons_succ] at hSw ⊢); go_simp; try with_reducible rfl)
        try simp only [List.getElem_toArray, List.getElem_cons_zero, List.getElem_cons_succ, Act.put, List.setIfInBounds_toArray, List.set_cons_zero, List.set_cons_succ]
        refine wpAnyH_take (i := 21) (v := ?_) rfl (by kernel_rfl) (by kernel_rfl) (by kernel_rfl) (fun _ _ _ h => h) (Or.inl ⟨by rfl, ?_⟩) (by assumption) ?_
        rotate_left
        · (intro w hSw; (try dsimp only [List.getElem_toArray, List.getElem_cons_zero, List.getElem_cons_succ] at hSw ⊢); go_simp; try with_reducible rfl)
        try simp only [List.getElem_toArray, List.getElem_cons_zero, List.getElem_cons_succ, Act.put, List.setIfInBounds_toArray, List.set_cons_zero, List.set_cons_succ]
        refine wpAnyH_ready (rs := [22]) (by kernel_rfl) (by simp) ?_
        refine AllReadyH.cons rfl (fun K hK => ?_) AllReadyH.nil
        rw [if_pos (by rfl)]
        (try dsimp only [List.getElem_toArray, List.getElem_cons_zero, List.getElem_cons_succ])
        go_simp
        refine (HO3.out w.heap.size w _ (by assumption)).mono ?_; clear hHeld; rintro e w' ⟨rfl, hw⟩
        refine hK.out _ _ (by assumption) (fun hHeld => ?_)
        clear hK K
        try simp only [List.getElem_toArray, List.getElem_cons_zero, List.getElem_cons_succ, Act.put, List.setIfInBounds_toArray, List.set_cons_zero, List.set_cons_succ]
        refine wpAnyH_take (i := 23) (v := ?_) rfl (by kernel_rfl) (by kernel_rfl) (by kernel_rfl) (fun _ _ _ h => h) (Or.inl ⟨by rfl, ?_⟩) (by assumption) ?_
        rotate_left
        · (intro w hSw; (try dsimp only [List.getElem_toArray, List.getElem_cons_zero, List.getElem_cons_succ] at hSw ⊢); go_simp; try with_reducible rfl)
        try simp only [List.getElem_toArray, List.getElem_cons_zero, List.getElem_cons_succ, Act.put, List.setIfInBounds_toArray, List.set_cons_zero, List.set_cons_succ]
        refine wpAnyH_take (i := 24) (v := ?_) rfl (by kernel_rfl) (by kernel_rfl) (by kernel_rfl) (fun _ _ _ h => h) (Or.inl ⟨by rfl, ?_⟩) (by assumption) ?_
        rotate_left
        · (intro w hSw; (try dsimp only [List.getElem_toArray, List.getElem_cons_zero, List.getElem_cons_succ] at hSw ⊢); go_simp; try with_reducible rfl)
        try simp only [List.getElem_toArray, List.getElem_cons_zero, List.getElem_cons_succ, Act.put, List.setIfInBounds_toArray, List.set_cons_zero, List.set_cons_succ]
        refine wpAnyH_take (i := 25) (v := ?_) rfl (by kernel_rfl) (by kernel_rfl) (by kernel_rfl) (fun _ _ _ h => h) (Or.inl ⟨by rfl, ?_⟩) (by assumption) ?_
        rotate_left
        · (intro w hSw; (try dsimp only [List.getElem_toArray, List.getElem_cons_zero, List.getElem_cons_succ] at hSw ⊢); go_simp; try with_reducible rfl)
        try simp only [List.getElem_toArray, List.getElem_cons_zero, List.getElem_cons_succ, Act.put, List.setIfInBounds_toArray, List.set_cons_zero, List.set_cons_succ]
        refine wpAnyH_done (by kernel_rfl) ?_ _
        go_wp2
        go_ret
        exact ⟨rfl, hHeld.2.2.2.2⟩
end Go.Proofs.Ytnobgbndgjfiaaa
