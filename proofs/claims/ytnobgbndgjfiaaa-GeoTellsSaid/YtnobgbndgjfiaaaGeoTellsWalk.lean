/- The law GeoTells returns true and leaves all memory that was there as it was: for every geometry and int. -/
import Derived.Test.YtnobgbndgjfiaaaGeoAwake
namespace Go.Proofs.Ytnobgbndgjfiaaa
open Go.RowKit GeoPure

set_option maxHeartbeats 1000000 in
theorem geoTells_any (z p x n : Int) (w : World) :
    Calls Try.prog 11 #[.agg #[.int .i64 z, .int .i64 p, .int .i64 x], .int .i64 n] w fun e w' => e = .returned (.bool true) ∧ Below w.heap.size w w' := by
  have HA := Lib.hid (fun B w0 W h => held geoAwake_any (B := B) (z := z) (p := p) (x := x) (w0 := w0) (W := W) h)
  have HB := Lib.hid (fun B w0 W h => held_same (bound_any z p) (B := B) (z := z) (p := p) (x := x) (w0 := w0) (W := W) h)
  have HC := Lib.hid (fun B w0 W h => held_same (refBound_any z p) (B := B) (z := z) (p := p) (x := x) (w0 := w0) (W := W) h)
  have HR := Lib.hid (fun B w0 W h => held (right_any z p x) (B := B) (z := z) (p := p) (x := x) (w0 := w0) (W := W) h)
  have HS := Lib.hid (fun B w0 W h => held (refRight_any z p x) (B := B) (z := z) (p := p) (x := x) (w0 := w0) (W := W) h)
  have hin := fun h => in_of_right (z := z) (p := p) (x := x) h
  generalize bnd z p = b at HB HC
  generalize right z p x = β at HR HS hin
  go_enter Try.func11, Try.ntmps11
  go_wp2_with fail
  obtain ⟨wo, hwo⟩ : ∃ W, W = w.alloc (.cells #[.int .i64 z, .int .i64 p, .int .i64 x] 46) := ⟨_, rfl⟩
  rw [← hwo]
  have kw := box_new hwo
  clear hwo
  refine (HA.out w.heap.size w wo kw).mono ?_
  clear kw HA
  rintro e w1 ⟨rfl, k0, k1, k2, ko⟩
  have e1 : (b == b) = true := by simp
  cases β with
  | true =>
    obtain ⟨z1, z2, p1, p2⟩ := hin rfl
    have HL := Lib.hid (fun B w0 W h => held (log_any z p x z1 z2) (B := B) (z := z) (p := p) (x := x) (w0 := w0) (W := W) h)
    have f1 : IntKind.i64.wrap (z - 2) = z - 2 := IntWalk.i64_in _ (by omega)
    have e2 : (z - 2 == z - 2) = true := by simp
    go_wp2_with fail
    go_region_held3 (fun w' => (w'.cell? ⟨w.heap.size, 0, none⟩ = some (.int .i64 z) ∧ w'.cell? ⟨w.heap.size, 1, none⟩ = some (.int .i64 p) ∧ w'.cell? ⟨w.heap.size, 2, none⟩ = some (.int .i64 x) ∧ Over w.heap.size w w')) (first | exact ⟨k0, k1, k2, ko⟩ | exact ⟨k0, k1, k2, ko.drew⟩ | assumption)
      (first
        | (go_at_call 26; refine (HB.out w.heap.size w _ ?_).mono ?_; (first | exact ⟨k0, k1, k2, ko⟩ | exact ⟨k0, k1, k2, ko.drew⟩ | assumption); rintro e w' ⟨rfl, hw⟩)
        | (go_at_call 27; refine (HC.out w.heap.size w _ ?_).mono ?_; (first | exact ⟨k0, k1, k2, ko⟩ | exact ⟨k0, k1, k2, ko.drew⟩ | assumption); rintro e w' ⟨rfl, hw⟩)
        | (go_at_call 28; refine (HR.out w.heap.size w _ ?_).mono ?_; (first | exact ⟨k0, k1, k2, ko⟩ | exact ⟨k0, k1, k2, ko.drew⟩ | assumption); rintro e w' ⟨rfl, hw⟩)
        | (go_at_call 29; refine (HS.out w.heap.size w _ ?_).mono ?_; (first | exact ⟨k0, k1, k2, ko⟩ | exact ⟨k0, k1, k2, ko.drew⟩ | assumption); rintro e w' ⟨rfl, hw⟩)
        | (go_at_call 30; refine (HL.out w.heap.size w _ ?_).mono ?_; (first | exact ⟨k0, k1, k2, ko⟩ | exact ⟨k0, k1, k2, ko.drew⟩ | assumption); rintro e w' ⟨rfl, hw⟩))
    rename_i hHeld
    obtain ⟨-, -, -, -, ho⟩ := hHeld
    clear hw k0 k1 k2 ko HB HC HR HS hin e1 HL f1 e2 z1 z2 p1 p2
    by_cases n1 : n < 0
    · have d1 : decide (n < 0) = true := by simp [n1]
      go_wp2
      go_ret
      exact ⟨rfl, ho⟩
    have d1 : decide (n < 0) = false := by simp [n1]
    by_cases n2 : 1099511627776 < n
    · have d2 : decide (1099511627776 < n) = true := by simp [n2]
      go_wp2
      go_ret
      exact ⟨rfl, ho⟩
    have d2 : decide (1099511627776 < n) = false := by simp [n2]
    have HT := Lib.hid (table_any n (by omega) (by omega))
    have HU := Lib.hid (tables_any n (by omega) (by omega))
    have HV := Lib.hid (refTables_any n (by omega) (by omega))
    have q1 : 4 * (n / 4) + n % 4 = n := by omega
    have q2 : 0 ≤ n / 4 ∧ n / 4 ≤ 1099511627776 := by omega
    have q3 : 0 ≤ n % 4 := by omega
    have q4 : n % 4 < 4 := by omega
    clear n1 n2
    generalize n / 4 = t at HT q1 q2
    generalize n % 4 = k at HT q1 q3 q4
    generalize (n + 3) / 4 = v at HU HV
    obtain ⟨q5, q6⟩ := q2
    go_wp2_with fail
    refine (HT.out _).mono ?_
    rintro e w' ⟨rfl, rfl⟩
    clear d1 d2
    have e1 : (v == v) = true := by simp
    have f1 : IntKind.i64.wrap (4 * t) = 4 * t := IntWalk.i64_in _ (by omega)
    have e2 : (4 * t + k == n) = true := by simp [q1]
    have e3 : decide (0 ≤ k) = true := by simp [q3]
    have e4 : decide (k < 4) = true := by simp [q4]
    go_wp2_with fail
    refine (HU.out _).mono ?_
    rintro e w' ⟨rfl, rfl⟩
    go_wp2_with fail
    refine (HV.out _).mono ?_
    rintro e w' ⟨rfl, rfl⟩
    go_wp2
    go_ret
    exact ⟨rfl, ho⟩
  | false =>
    go_wp2_with fail
    refine wp_region_held_drew (S := fun w' => (w'.cell? ⟨w.heap.size, 0, none⟩ = some (.int .i64 z) ∧ w'.cell? ⟨w.heap.size, 1, none⟩ = some (.int .i64 p) ∧ w'.cell? ⟨w.heap.size, 2, none⟩ = some (.int .i64 x) ∧ Over w.heap.size w w')) (by kernel_rfl) ⟨k0, k1, k2, ko.drew⟩ (fun hHeld => ?_)
    refine wpAnyH_take (i := 0) (v := ?_) rfl (by kernel_rfl) (by kernel_rfl) (by kernel_rfl) (fun _ _ _ h => h) (Or.inl ⟨by rfl, ?_⟩) (by assumption) ?_
    rotate_left
    · (intro w hSw; (try dsimp only [List.getElem_toArray, List.getElem_cons_zero, List.getElem_cons_succ] at hSw ⊢); go_simp; try with_reducible rfl)
    try simp only [List.getElem_toArray, List.getElem_cons_zero, Act.put, List.setIfInBounds_toArray, List.set_cons_zero, List.set_cons_succ]
    refine wpAnyH_take (i := 1) (v := ?_) rfl (by kernel_rfl) (by kernel_rfl) (by kernel_rfl) (fun _ _ _ h => h) (Or.inl ⟨by rfl, ?_⟩) (by assumption) ?_
    rotate_left
    · (intro w hSw; (try dsimp only [List.getElem_toArray, List.getElem_cons_zero, List.getElem_cons_succ] at hSw ⊢); go_simp; try with_reducible rfl)
    try simp only [List.getElem_toArray, List.getElem_cons_zero, List.getElem_cons_succ, Act.put, List.setIfInBounds_toArray, List.set_cons_zero, List.set_cons_succ]
    refine wpAnyH_take (i := 2) (v := ?_) rfl (by kernel_rfl) (by kernel_rfl) (by kernel_rfl) (fun _ _ _ h => h) (Or.inl ⟨by rfl, ?_⟩) (by assumption) ?_
    rotate_left
    · (intro w hSw; (try dsimp only [List.getElem_toArray, List.getElem_cons_zero, List.getElem_cons_succ] at hSw ⊢); go_simp; try with_reducible rfl)
    try simp only [List.getElem_toArray, List.getElem_cons_zero, List.getElem_cons_succ, Act.put, List.setIfInBounds_toArray, List.set_cons_zero, List.set_cons_succ]
    refine wpAnyH_take (i := 3) (v := ?_) rfl (by kernel_rfl) (by kernel_rfl) (by kernel_rfl) (fun _ _ _ h => h) (Or.inl ⟨by rfl, ?_⟩) (by assumption) ?_
    rotate_left
    · (intro w hSw; (try dsimp only [List.getElem_toArray, List.getElem_cons_zero, List.getElem_cons_succ] at hSw ⊢); go_simp; try with_reducible rfl)
    try simp only [List.getElem_toArray, List.getElem_cons_zero, List.getElem_cons_succ, Act.put, List.setIfInBounds_toArray, List.set_cons_zero, List.set_cons_succ]
    refine wpAnyH_take (i := 5) (v := ?_) rfl (by kernel_rfl) (by kernel_rfl) (by kernel_rfl) (fun _ _ _ h => h) (Or.inl ⟨by rfl, ?_⟩) (by assumption) ?_
    rotate_left
    · (intro w hSw; (try dsimp only [List.getElem_toArray, List.getElem_cons_zero, List.getElem_cons_succ] at hSw ⊢); go_simp; try with_reducible rfl)
    try simp only [List.getElem_toArray, List.getElem_cons_zero, List.getElem_cons_succ, Act.put, List.setIfInBounds_toArray, List.set_cons_zero, List.set_cons_succ]
    refine wpAnyH_take (i := 6) (v := ?_) rfl (by kernel_rfl) (by kernel_rfl) (by kernel_rfl) (fun _ _ _ h => h) (Or.inl ⟨by rfl, ?_⟩) (by assumption) ?_
    rotate_left
    · (intro w hSw; (try dsimp only [List.getElem_toArray, List.getElem_cons_zero, List.getElem_cons_succ] at hSw ⊢); go_simp; try with_reducible rfl)
    try simp only [List.getElem_toArray, List.getElem_cons_zero, List.getElem_cons_succ, Act.put, List.setIfInBounds_toArray, List.set_cons_zero, List.set_cons_succ]
    refine wpAnyH_take (i := 7) (v := ?_) rfl (by kernel_rfl) (by kernel_rfl) (by kernel_rfl) (fun _ _ _ h => h) (Or.inl ⟨by rfl, ?_⟩) (by assumption) ?_
    rotate_left
    · (intro w hSw; (try dsimp only [List.getElem_toArray, List.getElem_cons_zero, List.getElem_cons_succ] at hSw ⊢); go_simp; try with_reducible rfl)
    try simp only [List.getElem_toArray, List.getElem_cons_zero, List.getElem_cons_succ, Act.put, List.setIfInBounds_toArray, List.set_cons_zero, List.set_cons_succ]
    refine wpAnyH_take (i := 8) (v := ?_) rfl (by kernel_rfl) (by kernel_rfl) (by kernel_rfl) (fun _ _ _ h => h) (Or.inl ⟨by rfl, ?_⟩) (by assumption) ?_
    rotate_left
    · (intro w hSw; (try dsimp only [List.getElem_toArray, List.getElem_cons_zero, List.getElem_cons_succ] at hSw ⊢); go_simp; try with_reducible rfl)
    try simp only [List.getElem_toArray, List.getElem_cons_zero, List.getElem_cons_succ, Act.put, List.setIfInBounds_toArray, List.set_cons_zero, List.set_cons_succ]
    refine wpAnyH_ready (rs := [4]) (by kernel_rfl) (by simp) ?_
    refine AllReadyH.cons rfl (fun K hK => ?_) AllReadyH.nil
    rw [if_pos (by rfl)]
    (try dsimp only [List.getElem_toArray, List.getElem_cons_zero, List.getElem_cons_succ])
    go_simp
    refine (HB.out w.heap.size w _ (by assumption)).mono ?_; clear hHeld; rintro e w' ⟨rfl, hw⟩
    refine hK.out _ _ (by assumption) (fun hHeld => ?_)
    clear hK K
    try simp only [List.getElem_toArray, List.getElem_cons_zero, List.getElem_cons_succ, Act.put, List.setIfInBounds_toArray, List.set_cons_zero, List.set_cons_succ]
    refine wpAnyH_ready (rs := [9]) (by kernel_rfl) (by simp) ?_
    refine AllReadyH.cons rfl (fun K hK => ?_) AllReadyH.nil
    rw [if_pos (by rfl)]
    (try dsimp only [List.getElem_toArray, List.getElem_cons_zero, List.getElem_cons_succ])
    go_simp
    refine (HC.out w.heap.size w _ (by assumption)).mono ?_; clear hHeld; rintro e w' ⟨rfl, hw⟩
    refine hK.out _ _ (by assumption) (fun hHeld => ?_)
    clear hK K
    try simp only [List.getElem_toArray, List.getElem_cons_zero, List.getElem_cons_succ, Act.put, List.setIfInBounds_toArray, List.set_cons_zero, List.set_cons_succ]
    refine wpAnyH_take (i := 10) (v := ?_) rfl (by kernel_rfl) (by kernel_rfl) (by kernel_rfl) (fun _ _ _ h => h) (Or.inl ⟨by rfl, ?_⟩) (by assumption) ?_
    rotate_left
    · (intro w hSw; (try dsimp only [List.getElem_toArray, List.getElem_cons_zero, List.getElem_cons_succ] at hSw ⊢); go_simp; try with_reducible rfl)
    try simp only [List.getElem_toArray, List.getElem_cons_zero, List.getElem_cons_succ, Act.put, List.setIfInBounds_toArray, List.set_cons_zero, List.set_cons_succ]
    refine wpAnyH_take (i := 11) (v := ?_) rfl (by kernel_rfl) (by kernel_rfl) (by kernel_rfl) (fun _ _ _ h => h) (Or.inl ⟨by rfl, ?_⟩) (by assumption) ?_
    rotate_left
    · (intro w hSw; (try dsimp only [List.getElem_toArray, List.getElem_cons_zero, List.getElem_cons_succ] at hSw ⊢); go_simp; try with_reducible rfl)
    try simp only [List.getElem_toArray, List.getElem_cons_zero, List.getElem_cons_succ, Act.put, List.setIfInBounds_toArray, List.set_cons_zero, List.set_cons_succ]
    refine wpAnyH_take (i := 12) (v := ?_) rfl (by kernel_rfl) (by kernel_rfl) (by kernel_rfl) (fun _ _ _ h => h) (Or.inl ⟨by rfl, ?_⟩) (by assumption) ?_
    rotate_left
    · (intro w hSw; (try dsimp only [List.getElem_toArray, List.getElem_cons_zero, List.getElem_cons_succ] at hSw ⊢); go_simp; try with_reducible rfl)
    try simp only [List.getElem_toArray, List.getElem_cons_zero, List.getElem_cons_succ, Act.put, List.setIfInBounds_toArray, List.set_cons_zero, List.set_cons_succ]
    refine wpAnyH_take (i := 14) (v := ?_) rfl (by kernel_rfl) (by kernel_rfl) (by kernel_rfl) (fun _ _ _ h => h) (Or.inl ⟨by rfl, ?_⟩) (by assumption) ?_
    rotate_left
    · (intro w hSw; (try dsimp only [List.getElem_toArray, List.getElem_cons_zero, List.getElem_cons_succ] at hSw ⊢); go_simp; try with_reducible rfl)
    try simp only [List.getElem_toArray, List.getElem_cons_zero, List.getElem_cons_succ, Act.put, List.setIfInBounds_toArray, List.set_cons_zero, List.set_cons_succ]
    refine wpAnyH_ready (rs := [13]) (by kernel_rfl) (by simp) ?_
    refine AllReadyH.cons rfl (fun K hK => ?_) AllReadyH.nil
    rw [if_pos (by rfl)]
    (try dsimp only [List.getElem_toArray, List.getElem_cons_zero, List.getElem_cons_succ])
    go_simp
    refine (HR.out w.heap.size w _ (by assumption)).mono ?_; clear hHeld; rintro e w' ⟨rfl, hw⟩
    refine hK.out _ _ (by assumption) (fun hHeld => ?_)
    clear hK K
    try simp only [List.getElem_toArray, List.getElem_cons_zero, List.getElem_cons_succ, Act.put, List.setIfInBounds_toArray, List.set_cons_zero, List.set_cons_succ]
    refine wpAnyH_ready (rs := [15]) (by kernel_rfl) (by simp) ?_
    refine AllReadyH.cons rfl (fun K hK => ?_) AllReadyH.nil
    rw [if_pos (by rfl)]
    (try dsimp only [List.getElem_toArray, List.getElem_cons_zero, List.getElem_cons_succ])
    go_simp
    refine (HS.out w.heap.size w _ (by assumption)).mono ?_; clear hHeld; rintro e w' ⟨rfl, hw⟩
    refine hK.out _ _ (by assumption) (fun hHeld => ?_)
    clear hK K
    try simp only [List.getElem_toArray, List.getElem_cons_zero, List.getElem_cons_succ, Act.put, List.setIfInBounds_toArray, List.set_cons_zero, List.set_cons_succ]
    refine wpAnyH_take (i := 16) (v := ?_) rfl (by kernel_rfl) (by kernel_rfl) (by kernel_rfl) (fun _ _ _ h => h) (Or.inl ⟨by rfl, ?_⟩) (by assumption) ?_
    rotate_left
    · (intro w hSw; (try dsimp only [List.getElem_toArray, List.getElem_cons_zero, List.getElem_cons_succ] at hSw ⊢); go_simp; try with_reducible rfl)
    try simp only [List.getElem_toArray, List.getElem_cons_zero, List.getElem_cons_succ, Act.put, List.setIfInBounds_toArray, List.set_cons_zero, List.set_cons_succ]
    refine wpAnyH_take (i := 17) (v := ?_) rfl (by kernel_rfl) (by kernel_rfl) (by kernel_rfl) (fun _ _ _ h => h) (Or.inl ⟨by rfl, ?_⟩) (by assumption) ?_
    rotate_left
    · (intro w hSw; (try dsimp only [List.getElem_toArray, List.getElem_cons_zero, List.getElem_cons_succ] at hSw ⊢); go_simp; try with_reducible rfl)
    try simp only [List.getElem_toArray, List.getElem_cons_zero, List.getElem_cons_succ, Act.put, List.setIfInBounds_toArray, List.set_cons_zero, List.set_cons_succ]
    refine wpAnyH_take (i := 18) (v := ?_) rfl (by kernel_rfl) (by kernel_rfl) (by kernel_rfl) (fun _ _ _ h => h) (Or.inl ⟨by rfl, ?_⟩) (by assumption) ?_
    rotate_left
    · (intro w hSw; (try dsimp only [List.getElem_toArray, List.getElem_cons_zero, List.getElem_cons_succ] at hSw ⊢); go_simp; try with_reducible rfl)
    try simp only [List.getElem_toArray, List.getElem_cons_zero, List.getElem_cons_succ, Act.put, List.setIfInBounds_toArray, List.set_cons_zero, List.set_cons_succ]
    refine wpAnyH_take (i := 19) (v := ?_) rfl (by kernel_rfl) (by kernel_rfl) (by kernel_rfl) (fun _ _ _ h => h) (Or.inl ⟨by rfl, ?_⟩) (by assumption) ?_
    rotate_left
    · (intro w hSw; (try dsimp only [List.getElem_toArray, List.getElem_cons_zero, List.getElem_cons_succ] at hSw ⊢); go_simp; try with_reducible rfl)
    try simp only [List.getElem_toArray, List.getElem_cons_zero, List.getElem_cons_succ, Act.put, List.setIfInBounds_toArray, List.set_cons_zero, List.set_cons_succ]
    refine wpAnyH_ready (rs := [20]) (by kernel_rfl) (by simp) ?_
    refine AllReadyH.cons rfl (fun K hK => ?_) AllReadyH.nil
    rw [if_pos (by rfl)]
    (try dsimp only [List.getElem_toArray, List.getElem_cons_zero, List.getElem_cons_succ])
    go_simp
    refine (HR.out w.heap.size w _ (by assumption)).mono ?_; clear hHeld; rintro e w' ⟨rfl, hw⟩
    refine hK.out _ _ (by assumption) (fun hHeld => ?_)
    clear hK K
    try simp only [List.getElem_toArray, List.getElem_cons_zero, List.getElem_cons_succ, Act.put, List.setIfInBounds_toArray, List.set_cons_zero, List.set_cons_succ]
    refine wpAnyH_take (i := 21) (v := ?_) rfl (by kernel_rfl) (by kernel_rfl) (by kernel_rfl) (fun _ _ _ h => h) (Or.inl ⟨by rfl, ?_⟩) (by assumption) ?_
    rotate_left
    · (intro w hSw; (try dsimp only [List.getElem_toArray, List.getElem_cons_zero, List.getElem_cons_succ] at hSw ⊢); go_simp; try with_reducible rfl)
    try simp only [List.getElem_toArray, List.getElem_cons_zero, List.getElem_cons_succ, Act.put, List.setIfInBounds_toArray, List.set_cons_zero, List.set_cons_succ]
    refine wpAnyH_take (i := 22) (v := undef) rfl (by kernel_rfl) (by kernel_rfl) (by kernel_rfl) (fun _ _ _ h => h) (Or.inr ⟨by rfl, rfl⟩) (by assumption) ?_
    try simp only [List.getElem_toArray, List.getElem_cons_zero, List.getElem_cons_succ, Act.put, List.setIfInBounds_toArray, List.set_cons_zero, List.set_cons_succ]
    refine wpAnyH_take (i := 23) (v := undef) rfl (by kernel_rfl) (by kernel_rfl) (by kernel_rfl) (fun _ _ _ h => h) (Or.inr ⟨by rfl, rfl⟩) (by assumption) ?_
    try simp only [List.getElem_toArray, List.getElem_cons_zero, List.getElem_cons_succ, Act.put, List.setIfInBounds_toArray, List.set_cons_zero, List.set_cons_succ]
    refine wpAnyH_take (i := 24) (v := undef) rfl (by kernel_rfl) (by kernel_rfl) (by kernel_rfl) (fun _ _ _ h => h) (Or.inr ⟨by rfl, rfl⟩) (by assumption) ?_
    try simp only [List.getElem_toArray, List.getElem_cons_zero, List.getElem_cons_succ, Act.put, List.setIfInBounds_toArray, List.set_cons_zero, List.set_cons_succ]
    refine wpAnyH_take (i := 25) (v := undef) rfl (by kernel_rfl) (by kernel_rfl) (by kernel_rfl) (fun _ _ _ h => h) (Or.inr ⟨by rfl, rfl⟩) (by assumption) ?_
    try simp only [List.getElem_toArray, List.getElem_cons_zero, List.getElem_cons_succ, Act.put, List.setIfInBounds_toArray, List.set_cons_zero, List.set_cons_succ]
    refine wpAnyH_take (i := 26) (v := undef) rfl (by kernel_rfl) (by kernel_rfl) (by kernel_rfl) (fun _ _ _ h => h) (Or.inr ⟨by rfl, rfl⟩) (by assumption) ?_
    try simp only [List.getElem_toArray, List.getElem_cons_zero, List.getElem_cons_succ, Act.put, List.setIfInBounds_toArray, List.set_cons_zero, List.set_cons_succ]
    refine wpAnyH_take (i := 27) (v := undef) rfl (by kernel_rfl) (by kernel_rfl) (by kernel_rfl) (fun _ _ _ h => h) (Or.inr ⟨by rfl, rfl⟩) (by assumption) ?_
    try simp only [List.getElem_toArray, List.getElem_cons_zero, List.getElem_cons_succ, Act.put, List.setIfInBounds_toArray, List.set_cons_zero, List.set_cons_succ]
    refine wpAnyH_take (i := 28) (v := ?_) rfl (by kernel_rfl) (by kernel_rfl) (by kernel_rfl) (fun _ _ _ h => h) (Or.inl ⟨by rfl, ?_⟩) (by assumption) ?_
    rotate_left
    · (intro w hSw; (try dsimp only [List.getElem_toArray, List.getElem_cons_zero, List.getElem_cons_succ] at hSw ⊢); go_simp; try with_reducible rfl)
    try simp only [List.getElem_toArray, List.getElem_cons_zero, List.getElem_cons_succ, Act.put, List.setIfInBounds_toArray, List.set_cons_zero, List.set_cons_succ]
    refine wpAnyH_take (i := 29) (v := ?_) rfl (by kernel_rfl) (by kernel_rfl) (by kernel_rfl) (fun _ _ _ h => h) (Or.inl ⟨by rfl, ?_⟩) (by assumption) ?_
    rotate_left
    · (intro w hSw; (try dsimp only [List.getElem_toArray, List.getElem_cons_zero, List.getElem_cons_succ] at hSw ⊢); go_simp; try with_reducible rfl)
    try simp only [List.getElem_toArray, List.getElem_cons_zero, List.getElem_cons_succ, Act.put, List.setIfInBounds_toArray, List.set_cons_zero, List.set_cons_succ]
    refine wpAnyH_done (by kernel_rfl) ?_ _
    rename_i hHeld
    obtain ⟨-, -, -, -, ho⟩ := hHeld
    clear hw k0 k1 k2 ko HB HC HR HS hin e1
    by_cases n1 : n < 0
    · have d1 : decide (n < 0) = true := by simp [n1]
      go_wp2
      go_ret
      exact ⟨rfl, ho⟩
    have d1 : decide (n < 0) = false := by simp [n1]
    by_cases n2 : 1099511627776 < n
    · have d2 : decide (1099511627776 < n) = true := by simp [n2]
      go_wp2
      go_ret
      exact ⟨rfl, ho⟩
    have d2 : decide (1099511627776 < n) = false := by simp [n2]
    have HT := Lib.hid (table_any n (by omega) (by omega))
    have HU := Lib.hid (tables_any n (by omega) (by omega))
    have HV := Lib.hid (refTables_any n (by omega) (by omega))
    have q1 : 4 * (n / 4) + n % 4 = n := by omega
    have q2 : 0 ≤ n / 4 ∧ n / 4 ≤ 1099511627776 := by omega
    have q3 : 0 ≤ n % 4 := by omega
    have q4 : n % 4 < 4 := by omega
    clear n1 n2
    generalize n / 4 = t at HT q1 q2
    generalize n % 4 = k at HT q1 q3 q4
    generalize (n + 3) / 4 = v at HU HV
    obtain ⟨q5, q6⟩ := q2
    go_wp2_with fail
    refine (HT.out _).mono ?_
    rintro e w' ⟨rfl, rfl⟩
    clear d1 d2
    have e1 : (v == v) = true := by simp
    have f1 : IntKind.i64.wrap (4 * t) = 4 * t := IntWalk.i64_in _ (by omega)
    have e2 : (4 * t + k == n) = true := by simp [q1]
    have e3 : decide (0 ≤ k) = true := by simp [q3]
    have e4 : decide (k < 4) = true := by simp [q4]
    go_wp2_with fail
    refine (HU.out _).mono ?_
    rintro e w' ⟨rfl, rfl⟩
    go_wp2_with fail
    refine (HV.out _).mono ?_
    rintro e w' ⟨rfl, rfl⟩
    go_wp2
    go_ret
    exact ⟨rfl, ho⟩
end Go.Proofs.Ytnobgbndgjfiaaa
