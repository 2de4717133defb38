/- The law GeoAll returns true and leaves all memory that was there as it was: for every geometry. -/
import Derived.Test.YtnobgbndgjfiaaaGeoAwake
namespace Go.Proofs.Ytnobgbndgjfiaaa
open Go.RowKit GeoPure

theorem at_none {z p a : Int} (h : isat z p a = false) : atz z p a = 0 ∧ atp z p a = 0 := by simp [atz, atp, h]

set_option maxRecDepth 100000 in
set_option maxHeartbeats 1000000 in
theorem geoAll_any (z p x : Int) (w : World) :
    Calls Try.prog 13 #[.agg #[.int .i64 z, .int .i64 p, .int .i64 x]] w fun e w' => e = .returned (.bool true) ∧ Below w.heap.size w w' := by
  have HA := Lib.hid (fun B w0 W h => held geoAwake_any (B := B) (z := z) (p := p) (x := x) (w0 := w0) (W := W) h)
  have HS := Lib.hid (fun B w0 W h => held (refRight_any z p x) (B := B) (z := z) (p := p) (x := x) (w0 := w0) (W := W) h)
  have hin := fun h => in_of_right (z := z) (p := p) (x := x) h
  generalize right z p x = β at HS hin
  have HI := Lib.hid hin
  clear hin
  go_enter Try.func13, Try.ntmps13
  go_wp2_with fail
  obtain ⟨wo, hwo⟩ : ∃ W, W = w.alloc (.cells #[.int .i64 z, .int .i64 p, .int .i64 x] 46) := ⟨_, rfl⟩
  rw [← hwo]
  have kw := box_new hwo
  clear hwo
  refine (HA.out w.heap.size w wo kw).mono ?_
  clear kw HA
  rintro e w1 ⟨rfl, k0, k1, k2, ko⟩
  cases β with
  | false =>
    go_wp2_with fail
    refine (HS.out w.heap.size w _ ⟨k0, k1, k2, ko⟩).mono ?_
    rintro e w2 ⟨rfl, _, _, _, ho⟩
    go_wp2
    go_ret
    exact ⟨rfl, ho.2⟩
  | true =>
    have r := HI.out rfl
    have HR := Lib.hid r
    obtain ⟨z1, z2, p1, p2⟩ := r
    have HL := Lib.hid (fun B w0 W h => held (log_any z p x z1 z2) (B := B) (z := z) (p := p) (x := x) (w0 := w0) (W := W) h)
    clear HI
    go_wp2_with fail
    refine (HS.out w.heap.size w _ ⟨k0, k1, k2, ko⟩).mono ?_
    clear k0 k1 k2 ko HS
    rintro e w2 ⟨rfl, k0, k1, k2, ko⟩
    go_wp2_with fail
    refine (HL.out w.heap.size w _ ⟨k0, k1, k2, ko⟩).mono ?_
    clear k0 k1 k2 ko
    rintro e w3 ⟨rfl, k0, k1, k2, ko⟩
    go_wp2_with fail
    go_loopw [3, 22] (fun t i wr => ∃ k m : Int, 0 ≤ k ∧ k ≤ z - 2 ∧ Hid (m = k * p) ∧ 0 ≤ m ∧ m ≤ 352 ∧ t = .int .u32 m ∧ i = .int .i64 k ∧ (wr.cell? ⟨w.heap.size, 0, none⟩ = some (.int .i64 z) ∧ wr.cell? ⟨w.heap.size, 1, none⟩ = some (.int .i64 p) ∧ wr.cell? ⟨w.heap.size, 2, none⟩ = some (.int .i64 x) ∧ Over w.heap.size w wr)) (fun _ i _ => (z - intOf i).toNat)
    case atStart => exact ⟨0, 0, by omega, by omega, by simp [Hid], by omega, by omega, rfl, rfl, k0, k1, k2, ko⟩
    case round =>
      clear k0 k1 k2 ko
      obtain ⟨k, m, hk0, hk, HM, hm0, hm, rfl, rfl, k0, k1, k2, ko⟩ := hrel
      by_cases hlt : k < z - 2
      · have HK : Hid (m + p = (k + 1) * p ∧ m + p ≤ 352) := by
          have h1 := HM.out
          have h2 : (k + 1) * p ≤ (22 : Int) * 16 := Int.mul_le_mul (by omega) (by omega) (by omega) (by omega)
          refine ⟨?_, ?_⟩
          · rw [Int.add_mul, Int.one_mul, h1]
          · rw [Int.add_mul, Int.one_mul] at h2
            omega
        go_wp2_with fail
        obtain ⟨wi, rfl⟩ : ∃ W, W = wr := ⟨_, rfl⟩
        go_loopw [3, 27] (fun t i wr => ∃ j : Int, 0 ≤ j ∧ j ≤ p ∧ t = .int .u32 (m + j) ∧ i = .int .i64 j ∧ (wr.cell? ⟨w.heap.size, 0, none⟩ = some (.int .i64 z) ∧ wr.cell? ⟨w.heap.size, 1, none⟩ = some (.int .i64 p) ∧ wr.cell? ⟨w.heap.size, 2, none⟩ = some (.int .i64 x) ∧ Over w.heap.size w wr)) (fun _ i _ => (p - intOf i).toNat)
        case atStart => exact ⟨0, by omega, by omega, by rw [Int.add_zero], rfl, k0, k1, k2, ko⟩
        case round =>
          clear k0 k1 k2 ko
          obtain ⟨j, hj0, hj, rfl, rfl, k0, k1, k2, ko⟩ := hrel
          by_cases hjl : j < p
          · have hit : k * p + j + 1 = m + j + 1 := by rw [HM.out]
            obtain ⟨r1, r2, r3⟩ := at_hit (z := z) p1 ⟨hk0, by omega⟩ ⟨hj0, hjl⟩ hit
            have hat := fun B w0 W h => held (at_any z p x (m + j + 1) HR.out (by omega) (by omega)) (B := B) (z := z) (p := p) (x := x) (w0 := w0) (W := W) h
            rw [r1, r2, r3] at hat
            have hof := fun B w0 W h => held (of_any z p x k j HR.out) (B := B) (z := z) (p := p) (x := x) (w0 := w0) (W := W) h
            rw [show place z p k j = m + j + 1 from (if_pos (by omega)).trans hit] at hof
            have HT := Lib.hid hat
            have HO := Lib.hid hof
            clear hat hof hit r1 r2 r3
            go_wp2_with fail
            refine (HT.out w.heap.size w _ ⟨k0, k1, k2, ko⟩).mono ?_
            clear k0 k1 k2 ko HT
            rintro e w4 ⟨rfl, k0, k1, k2, ko⟩
            go_wp2_with fail
            refine (HO.out w.heap.size w _ ⟨k0, k1, k2, ko⟩).mono ?_
            clear k0 k1 k2 ko HO
            rintro e w5 ⟨rfl, k0, k1, k2, ko⟩
            go_wp2
            go_roundw
            case rel => exact ⟨j + 1, by omega, by omega, by rw [Int.add_assoc], rfl, k0, k1, k2, ko⟩
            case measure => simp [intOf]; omega
          · obtain rfl : j = p := by omega
            go_wp2
            go_roundw
            case rel => exact ⟨k + 1, m + j, by omega, by omega, HK.out.1, by omega, HK.out.2, rfl, rfl, k0, k1, k2, ko⟩
            case measure => simp [intOf]; omega
      · obtain rfl : k = z - 2 := by omega
        have hno : isat z p (m + 1) = false := by simp [isat, ← HM.out]; omega
        have hno0 : isat z p 0 = false := by simp [isat]
        have hat := fun B w0 W h => held (at_any z p x (m + 1) HR.out (by omega) (by omega)) (B := B) (z := z) (p := p) (x := x) (w0 := w0) (W := W) h
        rw [hno, (at_none hno).1, (at_none hno).2] at hat
        have hat0 := fun B w0 W h => held (at_any z p x 0 HR.out (by omega) (by omega)) (B := B) (z := z) (p := p) (x := x) (w0 := w0) (W := W) h
        rw [hno0, (at_none hno0).1, (at_none hno0).2] at hat0
        have hof := fun B w0 W h => held (of_any z p x (z - 2) 0 HR.out) (B := B) (z := z) (p := p) (x := x) (w0 := w0) (W := W) h
        rw [show place z p (z - 2) 0 = 0 from if_neg (by omega)] at hof
        have hof2 := fun B w0 W h => held (of_any z p x 0 p HR.out) (B := B) (z := z) (p := p) (x := x) (w0 := w0) (W := W) h
        rw [show place z p 0 p = 0 from if_neg (by omega)] at hof2
        have hof3 := fun B w0 W h => held (of_any z p x (-1) 0 HR.out) (B := B) (z := z) (p := p) (x := x) (w0 := w0) (W := W) h
        rw [show place z p (-1) 0 = 0 from if_neg (by omega)] at hof3
        have HT := Lib.hid hat
        have HT0 := Lib.hid hat0
        have HO := Lib.hid hof
        have HO2 := Lib.hid hof2
        have HO3 := Lib.hid hof3
        clear hat hat0 hof hof2 hof3 hno hno0
        go_wp2_with fail
        refine (HT.out w.heap.size w _ ⟨k0, k1, k2, ko⟩).mono ?_
        clear k0 k1 k2 ko HT
        rintro e w4 ⟨rfl, k0, k1, k2, ko⟩
        go_wp2_with fail
        refine (HT0.out w.heap.size w _ ⟨k0, k1, k2, ko⟩).mono ?_
        clear k0 k1 k2 ko HT0
        rintro e w5 ⟨rfl, k0, k1, k2, ko⟩
        go_wp2_with fail
        clear HR HM hk0 hk hlt hm0 hm z1 z2 p1 p2
        refine wp_region_held_drew (S := fun w' => (w'.cell? ⟨w.heap.size, 0, none⟩ = some (.int .i64 z) ∧ w'.cell? ⟨w.heap.size, 1, none⟩ = some (.int .i64 p) ∧ w'.cell? ⟨w.heap.size, 2, none⟩ = some (.int .i64 x) ∧ Over w.heap.size w w')) (by kernel_rfl) ⟨k0, k1, k2, ko.drew⟩ (fun hHeld => ?_)
        clear k0 k1 k2 ko
        refine wpAnyH_take (i := 0) (oi := { dst := some 75, op := Op.move (Operand.tmp 11), type := 4, pos := "law.go:69", after := #[], guard := none }) (v := ?_) rfl (by kernel_rfl) (by kernel_rfl) (by kernel_rfl) (fun _ _ _ h => h) (Or.inl ⟨by rfl, ?_⟩) (by assumption) ?_
        rotate_left
        · (intro w hSw; (try dsimp only at hSw); go_simp; try with_reducible rfl)
        try simp only [Act.put, List.setIfInBounds_toArray, List.set_cons_zero, List.set_cons_succ]
        refine wpAnyH_take (i := 1) (oi := { dst := some 76, op := Op.unOp UnOp.not 4 (Operand.tmp 75), type := 4, pos := "law.go:69", after := #[{ on := 0, ground := Ground.data }], guard := none }) (v := ?_) rfl (by kernel_rfl) (by kernel_rfl) (by kernel_rfl) (fun _ _ _ h => h) (Or.inl ⟨by rfl, ?_⟩) (by assumption) ?_
        rotate_left
        · (intro w hSw; (try dsimp only at hSw); go_simp; try with_reducible rfl)
        try simp only [Act.put, List.setIfInBounds_toArray, List.set_cons_zero, List.set_cons_succ]
        refine wpAnyH_take (i := 2) (oi := { dst := some 77, op := Op.move (Operand.tmp 76), type := 4, pos := "law.go:69", after := #[{ on := 1, ground := Ground.data }], guard := none }) (v := ?_) rfl (by kernel_rfl) (by kernel_rfl) (by kernel_rfl) (fun _ _ _ h => h) (Or.inl ⟨by rfl, ?_⟩) (by assumption) ?_
        rotate_left
        · (intro w hSw; (try dsimp only at hSw); go_simp; try with_reducible rfl)
        try simp only [Act.put, List.setIfInBounds_toArray, List.set_cons_zero, List.set_cons_succ]
        refine wpAnyH_take (i := 3) (oi := { dst := some 78, op := Op.move (Operand.tmp 14), type := 4, pos := "law.go:69", after := #[{ on := 2, ground := Ground.guard }], guard := some (2, true) }) (v := ?_) rfl (by kernel_rfl) (by kernel_rfl) (by kernel_rfl) (fun _ _ _ h => h) (Or.inl ⟨by rfl, ?_⟩) (by assumption) ?_
        rotate_left
        · (intro w hSw; (try dsimp only at hSw); go_simp; try with_reducible rfl)
        try simp only [Act.put, List.setIfInBounds_toArray, List.set_cons_zero, List.set_cons_succ]
        refine wpAnyH_take (i := 4) (oi := { dst := some 79, op := Op.unOp UnOp.not 4 (Operand.tmp 78), type := 4, pos := "law.go:69", after := #[{ on := 3, ground := Ground.data }, { on := 2, ground := Ground.guard }], guard := some (2, true) }) (v := ?_) rfl (by kernel_rfl) (by kernel_rfl) (by kernel_rfl) (fun _ _ _ h => h) (Or.inl ⟨by rfl, ?_⟩) (by assumption) ?_
        rotate_left
        · (intro w hSw; (try dsimp only at hSw); go_simp; try with_reducible rfl)
        try simp only [Act.put, List.setIfInBounds_toArray, List.set_cons_zero, List.set_cons_succ]
        refine wpAnyH_take (i := 5) (oi := { dst := some 80, op := Op.pick (Operand.tmp 77) (Operand.tmp 79) (Operand.const (Value.bool false)), type := 4, pos := "law.go:69", after := #[{ on := 2, ground := Ground.data }, { on := 4, ground := Ground.data }], guard := none }) (v := ?_) rfl (by kernel_rfl) (by kernel_rfl) (by kernel_rfl) (fun _ _ _ h => h) (Or.inl ⟨by rfl, ?_⟩) (by assumption) ?_
        rotate_left
        · (intro w hSw; (try dsimp only at hSw); go_simp; try with_reducible rfl)
        try simp only [Act.put, List.setIfInBounds_toArray, List.set_cons_zero, List.set_cons_succ]
        refine wpAnyH_take (i := 6) (oi := { dst := some 81, op := Op.move (Operand.tmp 80), type := 4, pos := "law.go:69", after := #[{ on := 5, ground := Ground.data }, { on := 2, ground := Ground.chain }], guard := none }) (v := ?_) rfl (by kernel_rfl) (by kernel_rfl) (by kernel_rfl) (fun _ _ _ h => h) (Or.inl ⟨by rfl, ?_⟩) (by assumption) ?_
        rotate_left
        · (intro w hSw; (try dsimp only at hSw); go_simp; try with_reducible rfl)
        try simp only [Act.put, List.setIfInBounds_toArray, List.set_cons_zero, List.set_cons_succ]
        refine wpAnyH_take (i := 7) (oi := { dst := some 82, op := Op.load 46 (Operand.tmp 1), type := 46, pos := "law.go:69", after := #[{ on := 6, ground := Ground.guard }], guard := some (6, true) }) (v := ?_) rfl (by kernel_rfl) (by kernel_rfl) (by kernel_rfl) (fun _ _ _ h => h) (Or.inl ⟨by rfl, ?_⟩) (by assumption) ?_
        rotate_left
        · (intro w hSw; (try dsimp only at hSw); go_simp; try with_reducible rfl)
        try simp only [Act.put, List.setIfInBounds_toArray, List.set_cons_zero, List.set_cons_succ]
        refine wpAnyH_take (i := 8) (oi := { dst := some 83, op := Op.load 46 (Operand.tmp 1), type := 46, pos := "law.go:69", after := #[{ on := 6, ground := Ground.guard }], guard := some (6, true) }) (v := ?_) rfl (by kernel_rfl) (by kernel_rfl) (by kernel_rfl) (fun _ _ _ h => h) (Or.inl ⟨by rfl, ?_⟩) (by assumption) ?_
        rotate_left
        · (intro w hSw; (try dsimp only at hSw); go_simp; try with_reducible rfl)
        try simp only [Act.put, List.setIfInBounds_toArray, List.set_cons_zero, List.set_cons_succ]
        refine wpAnyH_ready (rs := [9]) (by kernel_rfl) (by simp) ?_
        refine AllReadyH.cons (o := { dst := some 84, op := Op.call { callee := Callee.value (Operand.func 30), args := #[Operand.tmp 83], argTypes := #[46] }, type := 3, pos := "law.go:69", after := #[{ on := 8, ground := Ground.data }, { on := 6, ground := Ground.chain }, { on := 6, ground := Ground.guard }], guard := some (6, true) }) rfl (fun K hK => ?_) AllReadyH.nil
        rw [if_pos (by rfl)]
        go_simp
        refine (HL.out w.heap.size w _ (by assumption)).mono ?_; clear hHeld; rintro e w' ⟨rfl, hw⟩
        refine hK.out _ _ (by assumption) (fun hHeld => ?_)
        clear hK K
        try simp only [Act.put, List.setIfInBounds_toArray, List.set_cons_zero, List.set_cons_succ]
        refine wpAnyH_ready (rs := [10]) (by kernel_rfl) (by simp) ?_
        refine AllReadyH.cons (o := { dst := some 85, op := Op.call { callee := Callee.value (Operand.func 36), args := #[Operand.tmp 82, Operand.tmp 84, Operand.const (Value.int IntKind.i64 0)], argTypes := #[46, 3, 3] }, type := 24, pos := "law.go:69", after := #[{ on := 7, ground := Ground.data }, { on := 9, ground := Ground.data }, { on := 9, ground := Ground.chain }, { on := 6, ground := Ground.guard }], guard := some (6, true) }) rfl (fun K hK => ?_) AllReadyH.nil
        rw [if_pos (by rfl)]
        go_simp
        refine (HO.out w.heap.size w _ (by assumption)).mono ?_; clear hHeld; rintro e w' ⟨rfl, hw⟩
        refine hK.out _ _ (by assumption) (fun hHeld => ?_)
        clear hK K
        try simp only [Act.put, List.setIfInBounds_toArray, List.set_cons_zero, List.set_cons_succ]
        refine wpAnyH_take (i := 11) (oi := { dst := some 86, op := Op.binOp BinOp.eql 24 (Operand.tmp 85) (Operand.const (Value.int IntKind.u32 0)) 24, type := 4, pos := "law.go:69", after := #[{ on := 10, ground := Ground.data }, { on := 6, ground := Ground.guard }], guard := some (6, true) }) (v := ?_) rfl (by kernel_rfl) (by kernel_rfl) (by kernel_rfl) (fun _ _ _ h => h) (Or.inl ⟨by rfl, ?_⟩) (by assumption) ?_
        rotate_left
        · (intro w hSw; (try dsimp only at hSw); go_simp; try with_reducible rfl)
        try simp only [Act.put, List.setIfInBounds_toArray, List.set_cons_zero, List.set_cons_succ]
        refine wpAnyH_take (i := 12) (oi := { dst := some 87, op := Op.pick (Operand.tmp 81) (Operand.tmp 86) (Operand.const (Value.bool false)), type := 4, pos := "law.go:69", after := #[{ on := 6, ground := Ground.data }, { on := 11, ground := Ground.data }], guard := none }) (v := ?_) rfl (by kernel_rfl) (by kernel_rfl) (by kernel_rfl) (fun _ _ _ h => h) (Or.inl ⟨by rfl, ?_⟩) (by assumption) ?_
        rotate_left
        · (intro w hSw; (try dsimp only at hSw); go_simp; try with_reducible rfl)
        try simp only [Act.put, List.setIfInBounds_toArray, List.set_cons_zero, List.set_cons_succ]
        refine wpAnyH_take (i := 13) (oi := { dst := some 88, op := Op.move (Operand.tmp 87), type := 4, pos := "law.go:69", after := #[{ on := 12, ground := Ground.data }, { on := 10, ground := Ground.chain }], guard := none }) (v := ?_) rfl (by kernel_rfl) (by kernel_rfl) (by kernel_rfl) (fun _ _ _ h => h) (Or.inl ⟨by rfl, ?_⟩) (by assumption) ?_
        rotate_left
        · (intro w hSw; (try dsimp only at hSw); go_simp; try with_reducible rfl)
        try simp only [Act.put, List.setIfInBounds_toArray, List.set_cons_zero, List.set_cons_succ]
        refine wpAnyH_take (i := 14) (oi := { dst := some 89, op := Op.load 46 (Operand.tmp 1), type := 46, pos := "law.go:69", after := #[{ on := 13, ground := Ground.guard }], guard := some (13, true) }) (v := ?_) rfl (by kernel_rfl) (by kernel_rfl) (by kernel_rfl) (fun _ _ _ h => h) (Or.inl ⟨by rfl, ?_⟩) (by assumption) ?_
        rotate_left
        · (intro w hSw; (try dsimp only at hSw); go_simp; try with_reducible rfl)
        try simp only [Act.put, List.setIfInBounds_toArray, List.set_cons_zero, List.set_cons_succ]
        refine wpAnyH_take (i := 15) (oi := { dst := some 90, op := Op.fieldAddr 46 (Operand.tmp 1) 1, type := 0, pos := "law.go:69", after := #[{ on := 13, ground := Ground.guard }], guard := some (13, true) }) (v := ?_) rfl (by kernel_rfl) (by kernel_rfl) (by kernel_rfl) (fun _ _ _ h => h) (Or.inl ⟨by rfl, ?_⟩) (by assumption) ?_
        rotate_left
        · (intro w hSw; (try dsimp only at hSw); go_simp; try with_reducible rfl)
        try simp only [Act.put, List.setIfInBounds_toArray, List.set_cons_zero, List.set_cons_succ]
        refine wpAnyH_take (i := 16) (oi := { dst := some 91, op := Op.load 3 (Operand.tmp 90), type := 3, pos := "law.go:69", after := #[{ on := 15, ground := Ground.data }, { on := 13, ground := Ground.guard }], guard := some (13, true) }) (v := ?_) rfl (by kernel_rfl) (by kernel_rfl) (by kernel_rfl) (fun _ _ _ h => h) (Or.inl ⟨by rfl, ?_⟩) (by assumption) ?_
        rotate_left
        · (intro w hSw; (try dsimp only at hSw); go_simp; try with_reducible rfl)
        try simp only [Act.put, List.setIfInBounds_toArray, List.set_cons_zero, List.set_cons_succ]
        refine wpAnyH_ready (rs := [17]) (by kernel_rfl) (by simp) ?_
        refine AllReadyH.cons (o := { dst := some 92, op := Op.call { callee := Callee.value (Operand.func 36), args := #[Operand.tmp 89, Operand.const (Value.int IntKind.i64 0), Operand.tmp 91], argTypes := #[46, 3, 3] }, type := 24, pos := "law.go:69", after := #[{ on := 14, ground := Ground.data }, { on := 16, ground := Ground.data }, { on := 13, ground := Ground.chain }, { on := 13, ground := Ground.guard }], guard := some (13, true) }) rfl (fun K hK => ?_) AllReadyH.nil
        rw [if_pos (by rfl)]
        go_simp
        refine (HO2.out w.heap.size w _ (by assumption)).mono ?_; clear hHeld; rintro e w' ⟨rfl, hw⟩
        refine hK.out _ _ (by assumption) (fun hHeld => ?_)
        clear hK K
        try simp only [Act.put, List.setIfInBounds_toArray, List.set_cons_zero, List.set_cons_succ]
        refine wpAnyH_take (i := 18) (oi := { dst := some 93, op := Op.binOp BinOp.eql 24 (Operand.tmp 92) (Operand.const (Value.int IntKind.u32 0)) 24, type := 4, pos := "law.go:69", after := #[{ on := 17, ground := Ground.data }, { on := 13, ground := Ground.guard }], guard := some (13, true) }) (v := ?_) rfl (by kernel_rfl) (by kernel_rfl) (by kernel_rfl) (fun _ _ _ h => h) (Or.inl ⟨by rfl, ?_⟩) (by assumption) ?_
        rotate_left
        · (intro w hSw; (try dsimp only at hSw); go_simp; try with_reducible rfl)
        try simp only [Act.put, List.setIfInBounds_toArray, List.set_cons_zero, List.set_cons_succ]
        refine wpAnyH_take (i := 19) (oi := { dst := some 94, op := Op.pick (Operand.tmp 88) (Operand.tmp 93) (Operand.const (Value.bool false)), type := 4, pos := "law.go:69", after := #[{ on := 13, ground := Ground.data }, { on := 18, ground := Ground.data }], guard := none }) (v := ?_) rfl (by kernel_rfl) (by kernel_rfl) (by kernel_rfl) (fun _ _ _ h => h) (Or.inl ⟨by rfl, ?_⟩) (by assumption) ?_
        rotate_left
        · (intro w hSw; (try dsimp only at hSw); go_simp; try with_reducible rfl)
        try simp only [Act.put, List.setIfInBounds_toArray, List.set_cons_zero, List.set_cons_succ]
        refine wpAnyH_take (i := 20) (oi := { dst := some 95, op := Op.move (Operand.tmp 94), type := 4, pos := "law.go:69", after := #[{ on := 19, ground := Ground.data }, { on := 17, ground := Ground.chain }], guard := none }) (v := ?_) rfl (by kernel_rfl) (by kernel_rfl) (by kernel_rfl) (fun _ _ _ h => h) (Or.inl ⟨by rfl, ?_⟩) (by assumption) ?_
        rotate_left
        · (intro w hSw; (try dsimp only at hSw); go_simp; try with_reducible rfl)
        try simp only [Act.put, List.setIfInBounds_toArray, List.set_cons_zero, List.set_cons_succ]
        refine wpAnyH_take (i := 21) (oi := { dst := some 96, op := Op.load 46 (Operand.tmp 1), type := 46, pos := "law.go:69", after := #[{ on := 20, ground := Ground.guard }], guard := some (20, true) }) (v := ?_) rfl (by kernel_rfl) (by kernel_rfl) (by kernel_rfl) (fun _ _ _ h => h) (Or.inl ⟨by rfl, ?_⟩) (by assumption) ?_
        rotate_left
        · (intro w hSw; (try dsimp only at hSw); go_simp; try with_reducible rfl)
        try simp only [Act.put, List.setIfInBounds_toArray, List.set_cons_zero, List.set_cons_succ]
        refine wpAnyH_ready (rs := [22]) (by kernel_rfl) (by simp) ?_
        refine AllReadyH.cons (o := { dst := some 97, op := Op.call { callee := Callee.value (Operand.func 36), args := #[Operand.tmp 96, Operand.const (Value.int IntKind.i64 (-1)), Operand.const (Value.int IntKind.i64 0)], argTypes := #[46, 3, 3] }, type := 24, pos := "law.go:69", after := #[{ on := 21, ground := Ground.data }, { on := 20, ground := Ground.chain }, { on := 20, ground := Ground.guard }], guard := some (20, true) }) rfl (fun K hK => ?_) AllReadyH.nil
        rw [if_pos (by rfl)]
        go_simp
        refine (HO3.out w.heap.size w _ (by assumption)).mono ?_; clear hHeld; rintro e w' ⟨rfl, hw⟩
        refine hK.out _ _ (by assumption) (fun hHeld => ?_)
        clear hK K
        try simp only [Act.put, List.setIfInBounds_toArray, List.set_cons_zero, List.set_cons_succ]
        refine wpAnyH_take (i := 23) (oi := { dst := some 98, op := Op.binOp BinOp.eql 24 (Operand.tmp 97) (Operand.const (Value.int IntKind.u32 0)) 24, type := 4, pos := "law.go:69", after := #[{ on := 22, ground := Ground.data }, { on := 20, ground := Ground.guard }], guard := some (20, true) }) (v := ?_) rfl (by kernel_rfl) (by kernel_rfl) (by kernel_rfl) (fun _ _ _ h => h) (Or.inl ⟨by rfl, ?_⟩) (by assumption) ?_
        rotate_left
        · (intro w hSw; (try dsimp only at hSw); go_simp; try with_reducible rfl)
        try simp only [Act.put, List.setIfInBounds_toArray, List.set_cons_zero, List.set_cons_succ]
        refine wpAnyH_take (i := 24) (oi := { dst := some 99, op := Op.pick (Operand.tmp 95) (Operand.tmp 98) (Operand.const (Value.bool false)), type := 4, pos := "law.go:69", after := #[{ on := 20, ground := Ground.data }, { on := 23, ground := Ground.data }], guard := none }) (v := ?_) rfl (by kernel_rfl) (by kernel_rfl) (by kernel_rfl) (fun _ _ _ h => h) (Or.inl ⟨by rfl, ?_⟩) (by assumption) ?_
        rotate_left
        · (intro w hSw; (try dsimp only at hSw); go_simp; try with_reducible rfl)
        try simp only [Act.put, List.setIfInBounds_toArray, List.set_cons_zero, List.set_cons_succ]
        refine wpAnyH_take (i := 25) (oi := { dst := some 2, op := Op.assign (Operand.tmp 99), type := 4, pos := "law.go:69", after := #[{ on := 24, ground := Ground.data }, { on := 22, ground := Ground.chain }, { on := 0, ground := Ground.phase }, { on := 1, ground := Ground.phase }, { on := 2, ground := Ground.phase }, { on := 3, ground := Ground.phase }, { on := 4, ground := Ground.phase }, { on := 5, ground := Ground.phase }, { on := 6, ground := Ground.phase }, { on := 7, ground := Ground.phase }, { on := 8, ground := Ground.phase }, { on := 9, ground := Ground.phase }, { on := 10, ground := Ground.phase }, { on := 11, ground := Ground.phase }, { on := 12, ground := Ground.phase }, { on := 13, ground := Ground.phase }, { on := 14, ground := Ground.phase }, { on := 15, ground := Ground.phase }, { on := 16, ground := Ground.phase }, { on := 17, ground := Ground.phase }, { on := 18, ground := Ground.phase }, { on := 19, ground := Ground.phase }, { on := 20, ground := Ground.phase }, { on := 21, ground := Ground.phase }, { on := 22, ground := Ground.phase }, { on := 23, ground := Ground.phase }, { on := 24, ground := Ground.phase }], guard := none }) (v := ?_) rfl (by kernel_rfl) (by kernel_rfl) (by kernel_rfl) (fun _ _ _ h => h) (Or.inl ⟨by rfl, ?_⟩) (by assumption) ?_
        rotate_left
        · (intro w hSw; (try dsimp only at hSw); go_simp; try with_reducible rfl)
        try simp only [Act.put, List.setIfInBounds_toArray, List.set_cons_zero, List.set_cons_succ]
        refine wpAnyH_done (by kernel_rfl) ?_ _
        go_wp2
        go_ret
        exact ⟨rfl, hHeld.2.2.2.2⟩
end Go.Proofs.Ytnobgbndgjfiaaa
