/- The law GeoRoom returns true and leaves all memory that was there as it was: for every geometry and int. -/
import Derived.Test.YtnobgbndgjfiaaaGeoAwake
import Derived.Deep.DeepCutAuto
namespace Go.Proofs.Ytnobgbndgjfiaaa
open Go.RowKit GeoPure

/-- As Over, and the box's third cell may be written. -/
def OverF (B : Nat) (w0 w : World) : Prop := w.frozen? ⟨B, 2, none⟩ = false ∧ Over B w0 w
theorem OverF.drew {B : Nat} {w0 w : World} (h : OverF B w0 w) : OverF B w0 w.drew := ⟨h.1, h.2.drew⟩
theorem OverF.drewN {B : Nat} {w0 w : World} (h : OverF B w0 w) (n : Nat) : OverF B w0 (w.drewN n) := ⟨h.1, h.2.drewN n⟩

theorem heldF {f : FuncId} {args : Array Value} {v : Value} (hc : ∀ W, Calls Try.prog f args W fun e W' => e = .returned v ∧ Below W.heap.size W W') {B : Nat} {z p x : Int} {w0 W : World} (h : (W.cell? ⟨B, 0, none⟩ = some (.int .i64 z) ∧ W.cell? ⟨B, 1, none⟩ = some (.int .i64 p) ∧ W.cell? ⟨B, 2, none⟩ = some (.int .i64 x) ∧ OverF B w0 W)) :
    Calls Try.prog f args W fun e W' => e = .returned v ∧ (W'.cell? ⟨B, 0, none⟩ = some (.int .i64 z) ∧ W'.cell? ⟨B, 1, none⟩ = some (.int .i64 p) ∧ W'.cell? ⟨B, 2, none⟩ = some (.int .i64 x) ∧ OverF B w0 W') := by
  obtain ⟨h0, h1, h2, hf, hl, hb⟩ := h
  refine (hc W).mono fun e W' ⟨he, hb'⟩ => ⟨he, ?_, ?_, ?_, ?_, Nat.lt_of_lt_of_le hl hb'.size, hb.trans (hb'.mono (Nat.le_of_lt hl))⟩
  · exact (hb'.cell hl).trans h0
  · exact (hb'.cell hl).trans h1
  · exact (hb'.cell hl).trans h2
  · exact (hb'.frozen hl).trans hf

theorem heldF_same {f : FuncId} {args : Array Value} {v : Value} (hc : ∀ W, Calls Try.prog f args W fun e W' => e = .returned v ∧ W = W') {B : Nat} {z p x : Int} {w0 W : World} (h : (W.cell? ⟨B, 0, none⟩ = some (.int .i64 z) ∧ W.cell? ⟨B, 1, none⟩ = some (.int .i64 p) ∧ W.cell? ⟨B, 2, none⟩ = some (.int .i64 x) ∧ OverF B w0 W)) :
    Calls Try.prog f args W fun e W' => e = .returned v ∧ (W'.cell? ⟨B, 0, none⟩ = some (.int .i64 z) ∧ W'.cell? ⟨B, 1, none⟩ = some (.int .i64 p) ∧ W'.cell? ⟨B, 2, none⟩ = some (.int .i64 x) ∧ OverF B w0 W') :=
  heldF (fun W => (hc W).mono fun _ _ ⟨he, h⟩ => ⟨he, h ▸ Below.refl _ _⟩) h

theorem boxF_new {z p x : Int} {w W : World} {t : TypeId} (hW : W = w.alloc (.cells #[.int .i64 z, .int .i64 p, .int .i64 x] t)) : (W.cell? ⟨w.heap.size, 0, none⟩ = some (.int .i64 z) ∧ W.cell? ⟨w.heap.size, 1, none⟩ = some (.int .i64 p) ∧ W.cell? ⟨w.heap.size, 2, none⟩ = some (.int .i64 x) ∧ OverF w.heap.size w W) := by
  obtain ⟨h0, h1, h2, ho⟩ := box_new hW
  refine ⟨h0, h1, h2, ?_, ho⟩
  subst hW
  unfold World.frozen?
  rw [heap_alloc_new]
  simp

set_option maxRecDepth 100000 in
set_option maxHeartbeats 4000000 in
theorem geoRoom_any (z p x n : Int) (w : World) :
    Calls Try.prog 14 #[.agg #[.int .i64 z, .int .i64 p, .int .i64 x], .int .i64 n] w fun e w' => e = .returned (.bool true) ∧ Below w.heap.size w w' := by
  have HA := Lib.hid (fun B w0 W h => heldF geoAwake_any (B := B) (z := z) (p := p) (x := x) (w0 := w0) (W := W) h)
  have HB := Lib.hid (fun B w0 W h => heldF_same (bound_any z p) (B := B) (z := z) (p := p) (x := x) (w0 := w0) (W := W) h)
  go_enter Try.func14, Try.ntmps14
  go_wp2_with fail
  obtain ⟨wo, hwo⟩ : ∃ W, W = w.alloc (.cells #[.int .i64 z, .int .i64 p, .int .i64 x] 46) := ⟨_, rfl⟩
  rw [← hwo]
  have kw := boxF_new hwo
  clear hwo
  refine (HA.out w.heap.size w wo kw).mono ?_
  clear kw HA
  rintro e w1 ⟨rfl, k0, k1, k2, ko⟩
  go_wp2_with fail
  refine (HB.out w.heap.size w _ ⟨k0, k1, k2, ko⟩).mono ?_
  clear k0 k1 k2 ko HB
  rintro e w2 ⟨rfl, k0, k1, k2, ko⟩
  have hr := bnd_range z p
  have HIN := Lib.hid (fun h => in_of_bnd (z := z) (p := p) h)
  have HROOM := Lib.hid (fun h => ok_room (bnd_ok (z := z) (p := p) h))
  have HZ := Lib.hid (fun h1 h2 => bnd_more_z (z := z) (p := p) h1 h2)
  have HP := Lib.hid (fun h1 h2 => bnd_more_p (z := z) (p := p) h1 h2)
  have HRT : Hid (right z p n = (decide (1 ≤ n) && decide (n ≤ bnd z p))) := rfl
  generalize bnd z p = b at hr HIN HROOM HZ HP HRT ⊢
  obtain ⟨hb0, hb64⟩ := hr
  go_upto_region 4 with fail
  go_cut [43] (fun s43 wx => s43 = .bool false ∧ (wx.cell? ⟨w.heap.size, 0, none⟩ = some (.int .i64 z) ∧ wx.cell? ⟨w.heap.size, 1, none⟩ = some (.int .i64 p) ∧ wx.cell? ⟨w.heap.size, 2, none⟩ = some (.int .i64 x) ∧ OverF w.heap.size w wx))
  case first =>
    have d1 : decide (b < 0) = false := by simp; omega
    have d2 : decide (64 < b) = false := by simp; omega
    by_cases hb : 0 < b
    · have d3 : decide (0 < b) = true := by simp [hb]
      have hin := HIN.out hb
      have hroom := HROOM.out hb
      have hpr := prod_range hin
      have HT := Lib.hid (tables_any b (by omega) (by omega))
      have ht : 0 ≤ (b + 3) / 4 ∧ (b + 3) / 4 ≤ 64 := by omega
      generalize (b + 3) / 4 = t at HT hroom ht
      have f1 : IntKind.i64.wrap (z - 7) = z - 7 := IntWalk.i64_in _ (by omega)
      have f2 : IntKind.i64.wrap ((z - 7) * p) = (z - 7) * p := IntWalk.i64_in _ (by omega)
      have f3 : IntKind.i64.wrap (b + t) = b + t := IntWalk.i64_in _ (by omega)
      have f4 : IntKind.i64.wrap (2 * (b + t)) = 2 * (b + t) := IntWalk.i64_in _ (by omega)
      have d4 : decide ((z - 7) * p < 2 * (b + t)) = false := by simp; omega
      have d5 : decide (p < t) = false := by simp; omega
      clear HIN HROOM HZ HP HRT hin hroom hpr ht hb hb0 hb64
      go_quiet ((go_at_call 32; exact quiet_one (HT.out _)))
      go_wp2_with fail
      go_meet
      exact ⟨rfl, k0, k1, k2, ko.drewN _⟩
    · have d3 : decide (0 < b) = false := by simp [hb]
      clear HIN HROOM HZ HP HRT hb hb0 hb64
      go_quiet (fail)
      go_wp2_with fail
      go_meet
      exact ⟨rfl, k0, k1, k2, ko.drewN _⟩
  case rest =>
    obtain ⟨rfl, k0', k1', k2', ko'⟩ := hcut
    clear k0 k1 k2 ko
    go_upto_region 6 with fail
    go_cut [81] (fun s81 wx => s81 = .bool false ∧ (wx.cell? ⟨w.heap.size, 0, none⟩ = some (.int .i64 z) ∧ wx.cell? ⟨w.heap.size, 1, none⟩ = some (.int .i64 p) ∧ wx.cell? ⟨w.heap.size, 2, none⟩ = some (.int .i64 x) ∧ OverF w.heap.size w wx))
    case first =>
      have hz : z < 11 ∨ (11 ≤ z ∧ ¬ z < 24) ∨ (11 ≤ z ∧ z < 24) := by omega
      have hp : p < 4 ∨ (4 ≤ p ∧ ¬ p < 16) ∨ (4 ≤ p ∧ p < 16) := by omega
      have HBZ := Lib.hid (fun B w0 W h => heldF_same (bound_any (z + 1) p) (B := B) (z := z) (p := p) (x := x) (w0 := w0) (W := W) h)
      have HBP := Lib.hid (fun B w0 W h => heldF_same (bound_any z (p + 1)) (B := B) (z := z) (p := p) (x := x) (w0 := w0) (W := W) h)
      have HBK := Lib.hid (show (wc.cell? ⟨w.heap.size, 0, none⟩ = some (.int .i64 z) ∧ wc.cell? ⟨w.heap.size, 1, none⟩ = some (.int .i64 p) ∧ wc.cell? ⟨w.heap.size, 2, none⟩ = some (.int .i64 x) ∧ OverF w.heap.size w wc) from ⟨k0', k1', k2', ko'⟩)
      clear HIN HROOM HRT hb0 hb64
      generalize bnd (z + 1) p = bz at HZ HBZ
      generalize bnd z (p + 1) = bp at HP HBP
      rcases hz with hz | ⟨hz, hz'⟩ | ⟨hz, hz'⟩
      · have g1 : decide (11 ≤ z) = false := by simp; omega
        rcases hp with hp | ⟨hp, hp'⟩ | ⟨hp, hp'⟩
        · have g4 : decide (4 ≤ p) = false := by simp; omega
          clear HZ HP
          go_wp2_with fail
          go_meet
          exact ⟨rfl, k0', k1', k2', ko'⟩
        · have g4 : decide (4 ≤ p) = true := by simp; omega
          have g5 : decide (p < 16) = false := by simp; omega
          clear HZ HP
          go_wp2_with fail
          go_meet
          exact ⟨rfl, k0', k1', k2', ko'⟩
        · have g4 : decide (4 ≤ p) = true := by simp; omega
          have g5 : decide (p < 16) = true := by simp; omega
          have g6 : decide (bp < b) = false := by
            have := HP.out hp hp'
            simp; omega
          clear HZ HP
          go_wp2_with fail
          refine (HBP.out w.heap.size w _ ⟨k0', k1', k2', ko'⟩).mono ?_
          rintro e wd ⟨rfl, k0', k1', k2', ko'⟩
          go_wp2_with fail
          go_meet
          exact ⟨rfl, k0', k1', k2', ko'⟩
      · have g1 : decide (11 ≤ z) = true := by simp; omega
        have g2 : decide (z < 24) = false := by simp; omega
        rcases hp with hp | ⟨hp, hp'⟩ | ⟨hp, hp'⟩
        · have g4 : decide (4 ≤ p) = false := by simp; omega
          clear HZ HP
          go_wp2_with fail
          go_meet
          exact ⟨rfl, k0', k1', k2', ko'⟩
        · have g4 : decide (4 ≤ p) = true := by simp; omega
          have g5 : decide (p < 16) = false := by simp; omega
          clear HZ HP
          go_wp2_with fail
          go_meet
          exact ⟨rfl, k0', k1', k2', ko'⟩
        · have g4 : decide (4 ≤ p) = true := by simp; omega
          have g5 : decide (p < 16) = true := by simp; omega
          have g6 : decide (bp < b) = false := by
            have := HP.out hp hp'
            simp; omega
          clear HZ HP
          go_wp2_with fail
          refine (HBP.out w.heap.size w _ ⟨k0', k1', k2', ko'⟩).mono ?_
          rintro e wd ⟨rfl, k0', k1', k2', ko'⟩
          go_wp2_with fail
          go_meet
          exact ⟨rfl, k0', k1', k2', ko'⟩
      · have g1 : decide (11 ≤ z) = true := by simp; omega
        have g2 : decide (z < 24) = true := by simp; omega
        have g3 : decide (bz < b) = false := by
          have := HZ.out hz hz'
          simp; omega
        rcases hp with hp | ⟨hp, hp'⟩ | ⟨hp, hp'⟩
        · have g4 : decide (4 ≤ p) = false := by simp; omega
          clear HZ HP
          go_wp2_with fail
          refine (HBZ.out w.heap.size w _ ⟨k0', k1', k2', ko'⟩).mono ?_
          rintro e wd ⟨rfl, k0', k1', k2', ko'⟩
          go_wp2_with fail
          go_meet
          exact ⟨rfl, k0', k1', k2', ko'⟩
        · have g4 : decide (4 ≤ p) = true := by simp; omega
          have g5 : decide (p < 16) = false := by simp; omega
          clear HZ HP
          go_wp2_with fail
          refine (HBZ.out w.heap.size w _ ⟨k0', k1', k2', ko'⟩).mono ?_
          rintro e wd ⟨rfl, k0', k1', k2', ko'⟩
          go_wp2_with fail
          go_meet
          exact ⟨rfl, k0', k1', k2', ko'⟩
        · have g4 : decide (4 ≤ p) = true := by simp; omega
          have g5 : decide (p < 16) = true := by simp; omega
          have g6 : decide (bp < b) = false := by
            have := HP.out hp hp'
            simp; omega
          clear HZ HP
          go_wp2_with fail
          refine (HBZ.out w.heap.size w _ ⟨k0', k1', k2', ko'⟩).mono ?_
          rintro e wd ⟨rfl, k0', k1', k2', ko'⟩
          go_wp2_with fail
          refine (HBP.out w.heap.size w _ ⟨k0', k1', k2', ko'⟩).mono ?_
          rintro e wd ⟨rfl, k0', k1', k2', ko'⟩
          go_wp2_with fail
          go_meet
          exact ⟨rfl, k0', k1', k2', ko'⟩
    case rest =>
      obtain ⟨rfl, k0, k1, k2, kf, ko⟩ := hcut
      clear k0' k1' k2' ko' HZ HP HIN HROOM hb0 hb64
      have HR := Lib.hid (fun W => right_any z p n W)
      have e0 : (true == true) = true := rfl
      have e1 : (false == false) = true := rfl
      by_cases c1 : 1 ≤ n
      · have d1 : decide (1 ≤ n) = true := by simp [c1]
        by_cases c2 : n ≤ b
        · have d2 : decide (n ≤ b) = true := by simp [c2]
          have hrt := HRT.out
          rw [d1, d2, Bool.and_self] at hrt
          rw [hrt] at HR
          clear hrt HRT c1 c2
          go_wp2_with fail
          refine (HR.out _).mono ?_
          rintro e w5 ⟨rfl, hb⟩
          go_wp2
          go_ret
          exact ⟨rfl, (ko.2.setCell (Nat.le_refl _) _).trans (hb.mono (by simp; exact Nat.le_of_lt ko.1))⟩
        · have d2 : decide (n ≤ b) = false := by simp; omega
          have hrt := HRT.out
          rw [d1, d2, Bool.and_false] at hrt
          rw [hrt] at HR
          clear hrt HRT c1 c2
          go_wp2_with fail
          refine (HR.out _).mono ?_
          rintro e w5 ⟨rfl, hb⟩
          go_wp2
          go_ret
          exact ⟨rfl, (ko.2.setCell (Nat.le_refl _) _).trans (hb.mono (by simp; exact Nat.le_of_lt ko.1))⟩
      · have d1 : decide (1 ≤ n) = false := by simp; omega
        have hrt := HRT.out
        rw [d1, Bool.false_and] at hrt
        rw [hrt] at HR
        clear hrt HRT c1
        go_wp2_with fail
        refine (HR.out _).mono ?_
        rintro e w5 ⟨rfl, hb⟩
        go_wp2
        go_ret
        exact ⟨rfl, (ko.2.setCell (Nat.le_refl _) _).trans (hb.mono (by simp; exact Nat.le_of_lt ko.1))⟩
end Go.Proofs.Ytnobgbndgjfiaaa
