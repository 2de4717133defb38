/- The law GeoPlaces returns true and leaves all memory that was there as it was: for every geometry, zone, page and address. -/
import Derived.Test.YtnobgbndgjfiaaaGeoAwake
namespace Go.Proofs.Ytnobgbndgjfiaaa
open Go.RowKit GeoPure

theorem at_back {z p a : Int} (hp : 4 ≤ p) (h : isat z p a = true) : place z p (atz z p a) (atp z p a) = a := by
  have hm := h
  rw [atz, atp, if_pos h, if_pos h]
  simp only [isat, Bool.and_eq_true, decide_eq_true_eq] at hm
  have h1 : p * ((a - 1) / p) + (a - 1) % p = a - 1 := Int.mul_ediv_add_emod _ _
  have h2 : 0 ≤ (a - 1) % p := Int.emod_nonneg _ (by omega)
  have h3 : (a - 1) % p < p := Int.emod_lt_of_pos _ (by omega)
  have h4 : 0 ≤ (a - 1) / p := Int.ediv_nonneg (by omega) (by omega)
  have h5 : (a - 1) / p < z - 2 := Int.ediv_lt_of_lt_mul (by omega) (by omega)
  rw [place, if_pos (by omega), Int.mul_comm]
  omega

set_option maxHeartbeats 1000000 in
theorem geoPlaces_any (z p x zone page a : Int) (a0 : 0 ≤ a) (a1 : a ≤ 4294967295) (w : World) :
    Calls Try.prog 12 #[.agg #[.int .i64 z, .int .i64 p, .int .i64 x], .int .i64 zone, .int .i64 page, .int .u32 a] w fun e w' => e = .returned (.bool true) ∧ Below w.heap.size w w' := by
  have HA := Lib.hid (fun B w0 W h => held geoAwake_any (B := B) (z := z) (p := p) (x := x) (w0 := w0) (W := W) h)
  have HS := Lib.hid (fun B w0 W h => held (refRight_any z p x) (B := B) (z := z) (p := p) (x := x) (w0 := w0) (W := W) h)
  have hin := fun h => in_of_right (z := z) (p := p) (x := x) h
  generalize right z p x = β at HS hin
  have HI := Lib.hid hin
  have Ha0 := Lib.hid a0
  have Ha1 := Lib.hid a1
  clear hin a0 a1
  go_enter Try.func12, Try.ntmps12
  go_wp2_with fail
  obtain ⟨wo, hwo⟩ : ∃ W, W = w.alloc (.cells #[.int .i64 z, .int .i64 p, .int .i64 x] 46) := ⟨_, rfl⟩
  rw [← hwo]
  have kw := box_new hwo
  clear hwo
  refine (HA.out w.heap.size w wo kw).mono ?_
  clear kw HA
  rintro e w1 ⟨rfl, k0, k1, k2, ko⟩
  cases β with
  | false =>
    go_wp2_with fail
    refine (HS.out w.heap.size w _ ⟨k0, k1, k2, ko⟩).mono ?_
    rintro e w2 ⟨rfl, _, _, _, ho⟩
    go_wp2
    go_ret
    exact ⟨rfl, ho.2⟩
  | true =>
    have r := HI.out rfl
    have HT := Lib.hid (fun B w0 W h => held (at_any z p x a r Ha0.out Ha1.out) (B := B) (z := z) (p := p) (x := x) (w0 := w0) (W := W) h)
    have HU := Lib.hid (fun B w0 W h => held (refAt_any z p x a r) (B := B) (z := z) (p := p) (x := x) (w0 := w0) (W := W) h)
    have HO := Lib.hid (fun B w0 W h => held (of_any z p x zone page r) (B := B) (z := z) (p := p) (x := x) (w0 := w0) (W := W) h)
    have HP := Lib.hid (fun B w0 W h => held (refOf_any z p x zone page r) (B := B) (z := z) (p := p) (x := x) (w0 := w0) (W := W) h)
    have HQ := Lib.hid (fun B w0 W h => held (of_any z p x (atz z p a) (atp z p a) r) (B := B) (z := z) (p := p) (x := x) (w0 := w0) (W := W) h)
    have hback := at_back (z := z) (p := p) (a := a) r.2.2.1
    clear HI Ha0 Ha1 r
    generalize place z p zone page = c at HO HP
    generalize place z p (atz z p a) (atp z p a) = d at HQ hback
    generalize atz z p a = u at HT HU HQ
    generalize atp z p a = v at HT HU HQ
    have e1 : (u == u) = true := by simp
    have e2 : (v == v) = true := by simp
    have e3 : (c == c) = true := by simp
    cases hβ : isat z p a with
    | true =>
      rw [hβ] at HT HU hback
      obtain rfl := hback rfl
      clear hback hβ
      go_wp2_with fail
      refine (HS.out w.heap.size w _ ⟨k0, k1, k2, ko⟩).mono ?_
      clear k0 k1 k2 ko HS
      rintro e w2 ⟨rfl, k0, k1, k2, ko⟩
      go_wp2_with fail
      refine (HT.out w.heap.size w _ ⟨k0, k1, k2, ko⟩).mono ?_
      clear k0 k1 k2 ko HT
      rintro e w3 ⟨rfl, k0, k1, k2, ko⟩
      go_wp2_with fail
      refine (HU.out w.heap.size w _ ⟨k0, k1, k2, ko⟩).mono ?_
      clear k0 k1 k2 ko HU
      rintro e w4 ⟨rfl, k0, k1, k2, ko⟩
      go_wp2_with fail
      go_region_held3 (fun w' => (w'.cell? ⟨w.heap.size, 0, none⟩ = some (.int .i64 z) ∧ w'.cell? ⟨w.heap.size, 1, none⟩ = some (.int .i64 p) ∧ w'.cell? ⟨w.heap.size, 2, none⟩ = some (.int .i64 x) ∧ Over w.heap.size w w')) (first | exact ⟨k0, k1, k2, ko⟩ | exact ⟨k0, k1, k2, ko.drew⟩ | assumption)
        (first
          | (go_at_call 36; refine (HO.out w.heap.size w _ ?_).mono ?_; (first | exact ⟨k0, k1, k2, ko⟩ | exact ⟨k0, k1, k2, ko.drew⟩ | assumption); rintro e w' ⟨rfl, hw⟩)
          | (go_at_call 37; refine (HP.out w.heap.size w _ ?_).mono ?_; (first | exact ⟨k0, k1, k2, ko⟩ | exact ⟨k0, k1, k2, ko.drew⟩ | assumption); rintro e w' ⟨rfl, hw⟩))
      rename_i hHeld
      clear hw k0 k1 k2 ko HO HP e1 e2 e3
      obtain ⟨k0, k1, k2, ko⟩ := hHeld
      have e1 : (d == d) = true := by simp
      go_wp2_with fail
      refine (HQ.out w.heap.size w _ ⟨k0, k1, k2, ko⟩).mono ?_
      clear k0 k1 k2 ko HQ
      rintro e w5 ⟨rfl, k0, k1, k2, ko⟩
      go_wp2
      go_ret
      exact ⟨rfl, ko.2⟩
    | false =>
      rw [hβ] at HT HU
      clear hback hβ HQ
      go_wp2_with fail
      refine (HS.out w.heap.size w _ ⟨k0, k1, k2, ko⟩).mono ?_
      clear k0 k1 k2 ko HS
      rintro e w2 ⟨rfl, k0, k1, k2, ko⟩
      go_wp2_with fail
      refine (HT.out w.heap.size w _ ⟨k0, k1, k2, ko⟩).mono ?_
      clear k0 k1 k2 ko HT
      rintro e w3 ⟨rfl, k0, k1, k2, ko⟩
      go_wp2_with fail
      refine (HU.out w.heap.size w _ ⟨k0, k1, k2, ko⟩).mono ?_
      clear k0 k1 k2 ko HU
      rintro e w4 ⟨rfl, k0, k1, k2, ko⟩
      go_wp2_with fail
      go_region_held3 (fun w' => (w'.cell? ⟨w.heap.size, 0, none⟩ = some (.int .i64 z) ∧ w'.cell? ⟨w.heap.size, 1, none⟩ = some (.int .i64 p) ∧ w'.cell? ⟨w.heap.size, 2, none⟩ = some (.int .i64 x) ∧ Over w.heap.size w w')) (first | exact ⟨k0, k1, k2, ko⟩ | exact ⟨k0, k1, k2, ko.drew⟩ | assumption)
        (first
          | (go_at_call 36; refine (HO.out w.heap.size w _ ?_).mono ?_; (first | exact ⟨k0, k1, k2, ko⟩ | exact ⟨k0, k1, k2, ko.drew⟩ | assumption); rintro e w' ⟨rfl, hw⟩)
          | (go_at_call 37; refine (HP.out w.heap.size w _ ?_).mono ?_; (first | exact ⟨k0, k1, k2, ko⟩ | exact ⟨k0, k1, k2, ko.drew⟩ | assumption); rintro e w' ⟨rfl, hw⟩))
      rename_i hHeld
      clear hw k0 k1 k2 ko HO HP e1 e2 e3
      obtain ⟨k0, k1, k2, ko⟩ := hHeld
      go_wp2
      go_ret
      exact ⟨rfl, ko.2⟩
end Go.Proofs.Ytnobgbndgjfiaaa
