/- The law GeoTells returns true and leaves all memory that was there as it was: for every geometry and int. -/
import Derived.Test.YtnobgbndgjfiaaaGeoAwake
namespace Go.Proofs.Ytnobgbndgjfiaaa
open Go.RowKit GeoPure

set_option maxHeartbeats 1000000 in
theorem geoTells_any (z p x n : Int) (w : World) :
    Calls Try.prog 11 #[.agg #[.int .i64 z, .int .i64 p, .int .i64 x], .int .i64 n] w fun e w' => e = .returned (.bool true) ∧ Below w.heap.size w w' := by
  have HA := Lib.hid (fun B w0 W h => held geoAwake_any (B := B) (z := z) (p := p) (x := x) (w0 := w0) (W := W) h)
  have HB := Lib.hid (fun B w0 W h => held_same (bound_any z p) (B := B) (z := z) (p := p) (x := x) (w0 := w0) (W := W) h)
  have HC := Lib.hid (fun B w0 W h => held_same (refBound_any z p) (B := B) (z := z) (p := p) (x := x) (w0 := w0) (W := W) h)
  have HR := Lib.hid (fun B w0 W h => held (right_any z p x) (B := B) (z := z) (p := p) (x := x) (w0 := w0) (W := W) h)
  have HS := Lib.hid (fun B w0 W h => held (refRight_any z p x) (B := B) (z := z) (p := p) (x := x) (w0 := w0) (W := W) h)
  have hin := fun h => in_of_right (z := z) (p := p) (x := x) h
  generalize bnd z p = b at HB HC
  generalize right z p x = β at HR HS hin
  go_enter Try.func11, Try.ntmps11
  go_wp2_with fail
  obtain ⟨wo, hwo⟩ : ∃ W, W = w.alloc (.cells #[.int .i64 z, .int .i64 p, .int .i64 x] 46) := ⟨_, rfl⟩
  rw [← hwo]
  have kw := box_new hwo
  clear hwo
  refine (HA.out w.heap.size w wo kw).mono ?_
  clear kw HA
  rintro e w1 ⟨rfl, k0, k1, k2, ko⟩
  have e1 : (b == b) = true := by simp
  cases β with
  | true =>
    obtain ⟨z1, z2, p1, p2⟩ := hin rfl
    have HL := Lib.hid (fun B w0 W h => held (log_any z p x z1 z2) (B := B) (z := z) (p := p) (x := x) (w0 := w0) (W := W) h)
    have f1 : IntKind.i64.wrap (z - 2) = z - 2 := IntWalk.i64_in _ (by omega)
    have e2 : (z - 2 == z - 2) = true := by simp
    go_wp2_with fail
    go_region_held3 (fun w' => (w'.cell? ⟨w.heap.size, 0, none⟩ = some (.int .i64 z) ∧ w'.cell? ⟨w.heap.size, 1, none⟩ = some (.int .i64 p) ∧ w'.cell? ⟨w.heap.size, 2, none⟩ = some (.int .i64 x) ∧ Over w.heap.size w w')) (first | exact ⟨k0, k1, k2, ko⟩ | exact ⟨k0, k1, k2, ko.drew⟩ | assumption)
      (first
        | (go_at_call 26; refine (HB.out w.heap.size w _ ?_).mono ?_; (first | exact ⟨k0, k1, k2, ko⟩ | exact ⟨k0, k1, k2, ko.drew⟩ | assumption); rintro e w' ⟨rfl, hw⟩)
        | (go_at_call 27; refine (HC.out w.heap.size w _ ?_).mono ?_; (first | exact ⟨k0, k1, k2, ko⟩ | exact ⟨k0, k1, k2, ko.drew⟩ | assumption); rintro e w' ⟨rfl, hw⟩)
        | (go_at_call 28; refine (HR.out w.heap.size w _ ?_).mono ?_; (first | exact ⟨k0, k1, k2, ko⟩ | exact ⟨k0, k1, k2, ko.drew⟩ | assumption); rintro e w' ⟨rfl, hw⟩)
        | (go_at_call 29; refine (HS.out w.heap.size w _ ?_).mono ?_; (first | exact ⟨k0, k1, k2, ko⟩ | exact ⟨k0, k1, k2, ko.drew⟩ | assumption); rintro e w' ⟨rfl, hw⟩)
        | (go_at_call 30; refine (HL.out w.heap.size w _ ?_).mono ?_; (first | exact ⟨k0, k1, k2, ko⟩ | exact ⟨k0, k1, k2, ko.drew⟩ | assumption); rintro e w' ⟨rfl, hw⟩))
    rename_i hHeld
    obtain ⟨-, -, -, -, ho⟩ := hHeld
    clear hw k0 k1 k2 ko HB HC HR HS hin e1 HL f1 e2 z1 z2 p1 p2
    by_cases n1 : n < 0
    · have d1 : decide (n < 0) = true := by simp [n1]
      go_wp2
      go_ret
      exact ⟨rfl, ho⟩
    have d1 : decide (n < 0) = false := by simp [n1]
    by_cases n2 : 1099511627776 < n
    · have d2 : decide (1099511627776 < n) = true := by simp [n2]
      go_wp2
      go_ret
      exact ⟨rfl, ho⟩
    have d2 : decide (1099511627776 < n) = false := by simp [n2]
    have HT := Lib.hid (table_any n (by omega) (by omega))
    have HU := Lib.hid (tables_any n (by omega) (by omega))
    have HV := Lib.hid (refTables_any n (by omega) (by omega))
    have q1 : 4 * (n / 4) + n % 4 = n := by omega
    have q2 : 0 ≤ n / 4 ∧ n / 4 ≤ 1099511627776 := by omega
    have q3 : 0 ≤ n % 4 := by omega
    have q4 : n % 4 < 4 := by omega
    clear n1 n2
    generalize n / 4 = t at HT q1 q2
    generalize n % 4 = k at HT q1 q3 q4
    generalize (n + 3) / 4 = v at HU HV
    obtain ⟨q5, q6⟩ := q2
    go_wp2_with fail
    refine (HT.out _).mono ?_
    rintro e w' ⟨rfl, rfl⟩
    clear d1 d2
    have e1 : (v == v) = true := by simp
    have f1 : IntKind.i64.wrap (4 * t) = 4 * t := IntWalk.i64_in _ (by omega)
    have e2 : (4 * t + k == n) = true := by simp [q1]
    have e3 : decide (0 ≤ k) = true := by simp [q3]
    have e4 : decide (k < 4) = true := by simp [q4]
    go_wp2_with fail
    refine (HU.out _).mono ?_
    rintro e w' ⟨rfl, rfl⟩
    go_wp2_with fail
    refine (HV.out _).mono ?_
    rintro e w' ⟨rfl, rfl⟩
    go_wp2
    go_ret
    exact ⟨rfl, ho⟩
  | false =>
    go_wp2_with fail
    refine wp_region_held_drew (S := fun w' => (w'.cell? ⟨w.heap.size, 0, none⟩ = some (.int .i64 z) ∧ w'.cell? ⟨w.heap.size, 1, none⟩ = some (.int .i64 p) ∧ w'.cell? ⟨w.heap.size, 2, none⟩ = some (.int .i64 x) ∧ Over w.heap.size w w')) (by kernel_rfl) ⟨k0, k1, k2, ko.drew⟩ (fun hHeld => ?_)
    refine wpAnyH_take (i := 0) (oi := { dst := some 9, op := Op.fieldAddr 46 (Operand.tmp 2) 0, type := 0, pos := "law.go:23", after := #[], guard := none }) (v := ?_) rfl (by kernel_rfl) (by kernel_rfl) (by kernel_rfl) (fun _ _ _ h => h) (Or.inl ⟨by rfl, ?_⟩) (by assumption) ?_
    rotate_left
    · (intro w hSw; (try dsimp only at hSw); go_simp; try with_reducible rfl)
    try simp only [Act.put, List.setIfInBounds_toArray, List.set_cons_zero, List.set_cons_succ]
    refine wpAnyH_take (i := 1) (oi := { dst := some 10, op := Op.load 3 (Operand.tmp 9), type := 3, pos := "law.go:23", after := #[{ on := 0, ground := Ground.data }], guard := none }) (v := ?_) rfl (by kernel_rfl) (by kernel_rfl) (by kernel_rfl) (fun _ _ _ h => h) (Or.inl ⟨by rfl, ?_⟩) (by assumption) ?_
    rotate_left
    · (intro w hSw; (try dsimp only at hSw); go_simp; try with_reducible rfl)
    try simp only [Act.put, List.setIfInBounds_toArray, List.set_cons_zero, List.set_cons_succ]
    refine wpAnyH_take (i := 2) (oi := { dst := some 11, op := Op.fieldAddr 46 (Operand.tmp 2) 1, type := 0, pos := "law.go:23", after := #[], guard := none }) (v := ?_) rfl (by kernel_rfl) (by kernel_rfl) (by kernel_rfl) (fun _ _ _ h => h) (Or.inl ⟨by rfl, ?_⟩) (by assumption) ?_
    rotate_left
    · (intro w hSw; (try dsimp only at hSw); go_simp; try with_reducible rfl)
    try simp only [Act.put, List.setIfInBounds_toArray, List.set_cons_zero, List.set_cons_succ]
    refine wpAnyH_take (i := 3) (oi := { dst := some 12, op := Op.load 3 (Operand.tmp 11), type := 3, pos := "law.go:23", after := #[{ on := 2, ground := Ground.data }], guard := none }) (v := ?_) rfl (by kernel_rfl) (by kernel_rfl) (by kernel_rfl) (fun _ _ _ h => h) (Or.inl ⟨by rfl, ?_⟩) (by assumption) ?_
    rotate_left
    · (intro w hSw; (try dsimp only at hSw); go_simp; try with_reducible rfl)
    try simp only [Act.put, List.setIfInBounds_toArray, List.set_cons_zero, List.set_cons_succ]
    refine wpAnyH_take (i := 5) (oi := { dst := some 14, op := Op.fieldAddr 46 (Operand.tmp 2) 0, type := 0, pos := "law.go:23", after := #[], guard := none }) (v := ?_) rfl (by kernel_rfl) (by kernel_rfl) (by kernel_rfl) (fun _ _ _ h => h) (Or.inl ⟨by rfl, ?_⟩) (by assumption) ?_
    rotate_left
    · (intro w hSw; (try dsimp only at hSw); go_simp; try with_reducible rfl)
    try simp only [Act.put, List.setIfInBounds_toArray, List.set_cons_zero, List.set_cons_succ]
    refine wpAnyH_take (i := 6) (oi := { dst := some 15, op := Op.load 3 (Operand.tmp 14), type := 3, pos := "law.go:23", after := #[{ on := 5, ground := Ground.data }], guard := none }) (v := ?_) rfl (by kernel_rfl) (by kernel_rfl) (by kernel_rfl) (fun _ _ _ h => h) (Or.inl ⟨by rfl, ?_⟩) (by assumption) ?_
    rotate_left
    · (intro w hSw; (try dsimp only at hSw); go_simp; try with_reducible rfl)
    try simp only [Act.put, List.setIfInBounds_toArray, List.set_cons_zero, List.set_cons_succ]
    refine wpAnyH_take (i := 7) (oi := { dst := some 16, op := Op.fieldAddr 46 (Operand.tmp 2) 1, type := 0, pos := "law.go:23", after := #[], guard := none }) (v := ?_) rfl (by kernel_rfl) (by kernel_rfl) (by kernel_rfl) (fun _ _ _ h => h) (Or.inl ⟨by rfl, ?_⟩) (by assumption) ?_
    rotate_left
    · (intro w hSw; (try dsimp only at hSw); go_simp; try with_reducible rfl)
    try simp only [Act.put, List.setIfInBounds_toArray, List.set_cons_zero, List.set_cons_succ]
    refine wpAnyH_take (i := 8) (oi := { dst := some 17, op := Op.load 3 (Operand.tmp 16), type := 3, pos := "law.go:23", after := #[{ on := 7, ground := Ground.data }], guard := none }) (v := ?_) rfl (by kernel_rfl) (by kernel_rfl) (by kernel_rfl) (fun _ _ _ h => h) (Or.inl ⟨by rfl, ?_⟩) (by assumption) ?_
    rotate_left
    · (intro w hSw; (try dsimp only at hSw); go_simp; try with_reducible rfl)
    try simp only [Act.put, List.setIfInBounds_toArray, List.set_cons_zero, List.set_cons_succ]
    refine wpAnyH_ready (rs := [4]) (by kernel_rfl) (by simp) ?_
    refine AllReadyH.cons (o := { dst := some 13, op := Op.call { callee := Callee.value (Operand.func 26), args := #[Operand.tmp 10, Operand.tmp 12], argTypes := #[3, 3] }, type := 3, pos := "law.go:23", after := #[{ on := 1, ground := Ground.data }, { on := 3, ground := Ground.data }], guard := none }) rfl (fun K hK => ?_) AllReadyH.nil
    rw [if_pos (by rfl)]
    go_simp
    refine (HB.out w.heap.size w _ (by assumption)).mono ?_; clear hHeld; rintro e w' ⟨rfl, hw⟩
    refine hK.out _ _ (by assumption) (fun hHeld => ?_)
    clear hK K
    try simp only [Act.put, List.setIfInBounds_toArray, List.set_cons_zero, List.set_cons_succ]
    refine wpAnyH_ready (rs := [9]) (by kernel_rfl) (by simp) ?_
    refine AllReadyH.cons (o := { dst := some 18, op := Op.call { callee := Callee.value (Operand.func 27), args := #[Operand.tmp 15, Operand.tmp 17], argTypes := #[3, 3] }, type := 3, pos := "law.go:23", after := #[{ on := 6, ground := Ground.data }, { on := 8, ground := Ground.data }, { on := 4, ground := Ground.chain }], guard := none }) rfl (fun K hK => ?_) AllReadyH.nil
    rw [if_pos (by rfl)]
    go_simp
    refine (HC.out w.heap.size w _ (by assumption)).mono ?_; clear hHeld; rintro e w' ⟨rfl, hw⟩
    refine hK.out _ _ (by assumption) (fun hHeld => ?_)
    clear hK K
    try simp only [Act.put, List.setIfInBounds_toArray, List.set_cons_zero, List.set_cons_succ]
    refine wpAnyH_take (i := 10) (oi := { dst := some 19, op := Op.binOp BinOp.neq 3 (Operand.tmp 13) (Operand.tmp 18) 3, type := 4, pos := "law.go:23", after := #[{ on := 4, ground := Ground.data }, { on := 9, ground := Ground.data }], guard := none }) (v := ?_) rfl (by kernel_rfl) (by kernel_rfl) (by kernel_rfl) (fun _ _ _ h => h) (Or.inl ⟨by rfl, ?_⟩) (by assumption) ?_
    rotate_left
    · (intro w hSw; (try dsimp only at hSw); go_simp; try with_reducible rfl)
    try simp only [Act.put, List.setIfInBounds_toArray, List.set_cons_zero, List.set_cons_succ]
    refine wpAnyH_take (i := 11) (oi := { dst := some 20, op := Op.move (Operand.tmp 19), type := 4, pos := "law.go:23", after := #[{ on := 10, ground := Ground.data }, { on := 9, ground := Ground.chain }], guard := none }) (v := ?_) rfl (by kernel_rfl) (by kernel_rfl) (by kernel_rfl) (fun _ _ _ h => h) (Or.inl ⟨by rfl, ?_⟩) (by assumption) ?_
    rotate_left
    · (intro w hSw; (try dsimp only at hSw); go_simp; try with_reducible rfl)
    try simp only [Act.put, List.setIfInBounds_toArray, List.set_cons_zero, List.set_cons_succ]
    refine wpAnyH_take (i := 12) (oi := { dst := some 21, op := Op.load 46 (Operand.tmp 2), type := 46, pos := "law.go:23", after := #[{ on := 11, ground := Ground.guard }], guard := some (11, false) }) (v := ?_) rfl (by kernel_rfl) (by kernel_rfl) (by kernel_rfl) (fun _ _ _ h => h) (Or.inl ⟨by rfl, ?_⟩) (by assumption) ?_
    rotate_left
    · (intro w hSw; (try dsimp only at hSw); go_simp; try with_reducible rfl)
    try simp only [Act.put, List.setIfInBounds_toArray, List.set_cons_zero, List.set_cons_succ]
    refine wpAnyH_take (i := 14) (oi := { dst := some 23, op := Op.load 46 (Operand.tmp 2), type := 46, pos := "law.go:23", after := #[{ on := 11, ground := Ground.guard }], guard := some (11, false) }) (v := ?_) rfl (by kernel_rfl) (by kernel_rfl) (by kernel_rfl) (fun _ _ _ h => h) (Or.inl ⟨by rfl, ?_⟩) (by assumption) ?_
    rotate_left
    · (intro w hSw; (try dsimp only at hSw); go_simp; try with_reducible rfl)
    try simp only [Act.put, List.setIfInBounds_toArray, List.set_cons_zero, List.set_cons_succ]
    refine wpAnyH_ready (rs := [13]) (by kernel_rfl) (by simp) ?_
    refine AllReadyH.cons (o := { dst := some 22, op := Op.call { callee := Callee.value (Operand.func 28), args := #[Operand.tmp 21], argTypes := #[46] }, type := 4, pos := "law.go:23", after := #[{ on := 12, ground := Ground.data }, { on := 11, ground := Ground.chain }, { on := 11, ground := Ground.guard }], guard := some (11, false) }) rfl (fun K hK => ?_) AllReadyH.nil
    rw [if_pos (by rfl)]
    go_simp
    refine (HR.out w.heap.size w _ (by assumption)).mono ?_; clear hHeld; rintro e w' ⟨rfl, hw⟩
    refine hK.out _ _ (by assumption) (fun hHeld => ?_)
    clear hK K
    try simp only [Act.put, List.setIfInBounds_toArray, List.set_cons_zero, List.set_cons_succ]
    refine wpAnyH_ready (rs := [15]) (by kernel_rfl) (by simp) ?_
    refine AllReadyH.cons (o := { dst := some 24, op := Op.call { callee := Callee.value (Operand.func 29), args := #[Operand.tmp 23], argTypes := #[50] }, type := 4, pos := "law.go:23", after := #[{ on := 14, ground := Ground.data }, { on := 13, ground := Ground.chain }, { on := 11, ground := Ground.guard }], guard := some (11, false) }) rfl (fun K hK => ?_) AllReadyH.nil
    rw [if_pos (by rfl)]
    go_simp
    refine (HS.out w.heap.size w _ (by assumption)).mono ?_; clear hHeld; rintro e w' ⟨rfl, hw⟩
    refine hK.out _ _ (by assumption) (fun hHeld => ?_)
    clear hK K
    try simp only [Act.put, List.setIfInBounds_toArray, List.set_cons_zero, List.set_cons_succ]
    refine wpAnyH_take (i := 16) (oi := { dst := some 25, op := Op.binOp BinOp.neq 4 (Operand.tmp 22) (Operand.tmp 24) 4, type := 4, pos := "law.go:23", after := #[{ on := 13, ground := Ground.data }, { on := 15, ground := Ground.data }, { on := 11, ground := Ground.guard }], guard := some (11, false) }) (v := ?_) rfl (by kernel_rfl) (by kernel_rfl) (by kernel_rfl) (fun _ _ _ h => h) (Or.inl ⟨by rfl, ?_⟩) (by assumption) ?_
    rotate_left
    · (intro w hSw; (try dsimp only at hSw); go_simp; try with_reducible rfl)
    try simp only [Act.put, List.setIfInBounds_toArray, List.set_cons_zero, List.set_cons_succ]
    refine wpAnyH_take (i := 17) (oi := { dst := some 26, op := Op.pick (Operand.tmp 20) (Operand.const (Value.bool true)) (Operand.tmp 25), type := 4, pos := "law.go:23", after := #[{ on := 11, ground := Ground.data }, { on := 16, ground := Ground.data }], guard := none }) (v := ?_) rfl (by kernel_rfl) (by kernel_rfl) (by kernel_rfl) (fun _ _ _ h => h) (Or.inl ⟨by rfl, ?_⟩) (by assumption) ?_
    rotate_left
    · (intro w hSw; (try dsimp only at hSw); go_simp; try with_reducible rfl)
    try simp only [Act.put, List.setIfInBounds_toArray, List.set_cons_zero, List.set_cons_succ]
    refine wpAnyH_take (i := 18) (oi := { dst := some 27, op := Op.move (Operand.tmp 26), type := 4, pos := "law.go:23", after := #[{ on := 17, ground := Ground.data }, { on := 15, ground := Ground.chain }], guard := none }) (v := ?_) rfl (by kernel_rfl) (by kernel_rfl) (by kernel_rfl) (fun _ _ _ h => h) (Or.inl ⟨by rfl, ?_⟩) (by assumption) ?_
    rotate_left
    · (intro w hSw; (try dsimp only at hSw); go_simp; try with_reducible rfl)
    try simp only [Act.put, List.setIfInBounds_toArray, List.set_cons_zero, List.set_cons_succ]
    refine wpAnyH_take (i := 19) (oi := { dst := some 28, op := Op.load 46 (Operand.tmp 2), type := 46, pos := "law.go:23", after := #[{ on := 18, ground := Ground.guard }], guard := some (18, false) }) (v := ?_) rfl (by kernel_rfl) (by kernel_rfl) (by kernel_rfl) (fun _ _ _ h => h) (Or.inl ⟨by rfl, ?_⟩) (by assumption) ?_
    rotate_left
    · (intro w hSw; (try dsimp only at hSw); go_simp; try with_reducible rfl)
    try simp only [Act.put, List.setIfInBounds_toArray, List.set_cons_zero, List.set_cons_succ]
    refine wpAnyH_ready (rs := [20]) (by kernel_rfl) (by simp) ?_
    refine AllReadyH.cons (o := { dst := some 29, op := Op.call { callee := Callee.value (Operand.func 28), args := #[Operand.tmp 28], argTypes := #[46] }, type := 4, pos := "law.go:23", after := #[{ on := 19, ground := Ground.data }, { on := 18, ground := Ground.chain }, { on := 18, ground := Ground.guard }], guard := some (18, false) }) rfl (fun K hK => ?_) AllReadyH.nil
    rw [if_pos (by rfl)]
    go_simp
    refine (HR.out w.heap.size w _ (by assumption)).mono ?_; clear hHeld; rintro e w' ⟨rfl, hw⟩
    refine hK.out _ _ (by assumption) (fun hHeld => ?_)
    clear hK K
    try simp only [Act.put, List.setIfInBounds_toArray, List.set_cons_zero, List.set_cons_succ]
    refine wpAnyH_take (i := 21) (oi := { dst := some 30, op := Op.move (Operand.tmp 29), type := 4, pos := "law.go:23", after := #[{ on := 20, ground := Ground.data }, { on := 20, ground := Ground.chain }, { on := 18, ground := Ground.guard }], guard := some (18, false) }) (v := ?_) rfl (by kernel_rfl) (by kernel_rfl) (by kernel_rfl) (fun _ _ _ h => h) (Or.inl ⟨by rfl, ?_⟩) (by assumption) ?_
    rotate_left
    · (intro w hSw; (try dsimp only at hSw); go_simp; try with_reducible rfl)
    try simp only [Act.put, List.setIfInBounds_toArray, List.set_cons_zero, List.set_cons_succ]
    refine wpAnyH_take (i := 22) (oi := { dst := some 31, op := Op.load 46 (Operand.tmp 2), type := 46, pos := "law.go:23", after := #[{ on := 21, ground := Ground.guard }], guard := some (21, true) }) (v := undef) rfl (by kernel_rfl) (by kernel_rfl) (by kernel_rfl) (fun _ _ _ h => h) (Or.inr ⟨by rfl, rfl⟩) (by assumption) ?_
    try simp only [Act.put, List.setIfInBounds_toArray, List.set_cons_zero, List.set_cons_succ]
    refine wpAnyH_take (i := 23) (oi := { dst := some 32, op := Op.call { callee := Callee.value (Operand.func 30), args := #[Operand.tmp 31], argTypes := #[46] }, type := 3, pos := "law.go:23", after := #[{ on := 22, ground := Ground.data }, { on := 21, ground := Ground.chain }, { on := 21, ground := Ground.guard }], guard := some (21, true) }) (v := undef) rfl (by kernel_rfl) (by kernel_rfl) (by kernel_rfl) (fun _ _ _ h => h) (Or.inr ⟨by rfl, rfl⟩) (by assumption) ?_
    try simp only [Act.put, List.setIfInBounds_toArray, List.set_cons_zero, List.set_cons_succ]
    refine wpAnyH_take (i := 24) (oi := { dst := some 33, op := Op.fieldAddr 46 (Operand.tmp 2) 0, type := 0, pos := "law.go:23", after := #[{ on := 21, ground := Ground.guard }], guard := some (21, true) }) (v := undef) rfl (by kernel_rfl) (by kernel_rfl) (by kernel_rfl) (fun _ _ _ h => h) (Or.inr ⟨by rfl, rfl⟩) (by assumption) ?_
    try simp only [Act.put, List.setIfInBounds_toArray, List.set_cons_zero, List.set_cons_succ]
    refine wpAnyH_take (i := 25) (oi := { dst := some 34, op := Op.load 3 (Operand.tmp 33), type := 3, pos := "law.go:23", after := #[{ on := 24, ground := Ground.data }, { on := 21, ground := Ground.guard }], guard := some (21, true) }) (v := undef) rfl (by kernel_rfl) (by kernel_rfl) (by kernel_rfl) (fun _ _ _ h => h) (Or.inr ⟨by rfl, rfl⟩) (by assumption) ?_
    try simp only [Act.put, List.setIfInBounds_toArray, List.set_cons_zero, List.set_cons_succ]
    refine wpAnyH_take (i := 26) (oi := { dst := some 35, op := Op.binOp BinOp.sub 3 (Operand.tmp 34) (Operand.const (Value.int IntKind.i64 2)) 3, type := 3, pos := "law.go:23", after := #[{ on := 25, ground := Ground.data }, { on := 21, ground := Ground.guard }], guard := some (21, true) }) (v := undef) rfl (by kernel_rfl) (by kernel_rfl) (by kernel_rfl) (fun _ _ _ h => h) (Or.inr ⟨by rfl, rfl⟩) (by assumption) ?_
    try simp only [Act.put, List.setIfInBounds_toArray, List.set_cons_zero, List.set_cons_succ]
    refine wpAnyH_take (i := 27) (oi := { dst := some 36, op := Op.binOp BinOp.neq 3 (Operand.tmp 32) (Operand.tmp 35) 3, type := 4, pos := "law.go:23", after := #[{ on := 23, ground := Ground.data }, { on := 26, ground := Ground.data }, { on := 21, ground := Ground.guard }], guard := some (21, true) }) (v := undef) rfl (by kernel_rfl) (by kernel_rfl) (by kernel_rfl) (fun _ _ _ h => h) (Or.inr ⟨by rfl, rfl⟩) (by assumption) ?_
    try simp only [Act.put, List.setIfInBounds_toArray, List.set_cons_zero, List.set_cons_succ]
    refine wpAnyH_take (i := 28) (oi := { dst := some 37, op := Op.pick (Operand.tmp 30) (Operand.tmp 36) (Operand.const (Value.bool false)), type := 4, pos := "law.go:23", after := #[{ on := 21, ground := Ground.data }, { on := 27, ground := Ground.data }, { on := 18, ground := Ground.guard }], guard := some (18, false) }) (v := ?_) rfl (by kernel_rfl) (by kernel_rfl) (by kernel_rfl) (fun _ _ _ h => h) (Or.inl ⟨by rfl, ?_⟩) (by assumption) ?_
    rotate_left
    · (intro w hSw; (try dsimp only at hSw); go_simp; try with_reducible rfl)
    try simp only [Act.put, List.setIfInBounds_toArray, List.set_cons_zero, List.set_cons_succ]
    refine wpAnyH_take (i := 29) (oi := { dst := some 38, op := Op.pick (Operand.tmp 27) (Operand.const (Value.bool true)) (Operand.tmp 37), type := 4, pos := "law.go:23", after := #[{ on := 18, ground := Ground.data }, { on := 28, ground := Ground.data }], guard := none }) (v := ?_) rfl (by kernel_rfl) (by kernel_rfl) (by kernel_rfl) (fun _ _ _ h => h) (Or.inl ⟨by rfl, ?_⟩) (by assumption) ?_
    rotate_left
    · (intro w hSw; (try dsimp only at hSw); go_simp; try with_reducible rfl)
    try simp only [Act.put, List.setIfInBounds_toArray, List.set_cons_zero, List.set_cons_succ]
    refine wpAnyH_done (by kernel_rfl) ?_ _
    rename_i hHeld
    obtain ⟨-, -, -, -, ho⟩ := hHeld
    clear hw k0 k1 k2 ko HB HC HR HS hin e1
    by_cases n1 : n < 0
    · have d1 : decide (n < 0) = true := by simp [n1]
      go_wp2
      go_ret
      exact ⟨rfl, ho⟩
    have d1 : decide (n < 0) = false := by simp [n1]
    by_cases n2 : 1099511627776 < n
    · have d2 : decide (1099511627776 < n) = true := by simp [n2]
      go_wp2
      go_ret
      exact ⟨rfl, ho⟩
    have d2 : decide (1099511627776 < n) = false := by simp [n2]
    have HT := Lib.hid (table_any n (by omega) (by omega))
    have HU := Lib.hid (tables_any n (by omega) (by omega))
    have HV := Lib.hid (refTables_any n (by omega) (by omega))
    have q1 : 4 * (n / 4) + n % 4 = n := by omega
    have q2 : 0 ≤ n / 4 ∧ n / 4 ≤ 1099511627776 := by omega
    have q3 : 0 ≤ n % 4 := by omega
    have q4 : n % 4 < 4 := by omega
    clear n1 n2
    generalize n / 4 = t at HT q1 q2
    generalize n % 4 = k at HT q1 q3 q4
    generalize (n + 3) / 4 = v at HU HV
    obtain ⟨q5, q6⟩ := q2
    go_wp2_with fail
    refine (HT.out _).mono ?_
    rintro e w' ⟨rfl, rfl⟩
    clear d1 d2
    have e1 : (v == v) = true := by simp
    have f1 : IntKind.i64.wrap (4 * t) = 4 * t := IntWalk.i64_in _ (by omega)
    have e2 : (4 * t + k == n) = true := by simp [q1]
    have e3 : decide (0 ≤ k) = true := by simp [q3]
    have e4 : decide (k < 4) = true := by simp [q4]
    go_wp2_with fail
    refine (HU.out _).mono ?_
    rintro e w' ⟨rfl, rfl⟩
    go_wp2_with fail
    refine (HV.out _).mono ?_
    rintro e w' ⟨rfl, rfl⟩
    go_wp2
    go_ret
    exact ⟨rfl, ho⟩
end Go.Proofs.Ytnobgbndgjfiaaa
