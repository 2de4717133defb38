/- The reference's Same tells whether two lists of places are one: for every two lists. -/
import Derived.Test.YtnobgbndgjfiaaaChainOf
import Derived.Deep.QuietTactic
import Derived.BigQuiet
namespace Go.Proofs.Ytnobgbndgjfiaaa
open Go.RowKit

/-- Cell k of a slice that is seen. -/
theorem Seen.at1 {w : World} {B : Nat} {A : Option Addr} {xs : List Value} {u : Value} (h : Seen w B A xs) {k : Nat} (hk : xs[k]? = some u) : ∃ b off, A = some ⟨b, off, none⟩ ∧ b < B ∧ w.cell? ⟨b, off + k, none⟩ = some u := by
  have h0 : 0 < xs.length := by
    have := (List.getElem?_eq_some_iff.1 hk).1
    omega
  obtain ⟨⟨b, off, spot⟩, rfl, hb, hc⟩ := h 0 xs[0] (List.getElem?_eq_getElem h0)
  rw [Addr.add_zero'] at hc
  have : spot = none := by simpa using World.cell?_spot hc
  subst this
  obtain ⟨ad, e, _, hc'⟩ := h k u hk
  injection e with e
  subst e
  exact ⟨b, off, rfl, hb, by rwa [Addr.add_lit] at hc'⟩

theorem same_len (a b : List Nat) (A D : Option Addr) (n c m d : Nat) (ha : a.length = n) (hb : b.length = m) (h : n ≠ m) (w : World) :
    Calls Try.prog 21 #[.slice A n c, .slice D m d] w fun e w' => e = .returned (.bool (a == b)) ∧ Below w.heap.size w w' := by
  have hne : a ≠ b := fun e => h (by rw [← ha, ← hb, e])
  have hf : (a == b) = false := by simpa using hne
  have h1 : ((n : Int) != (m : Int)) = true := by simp; omega
  have HF := Lib.hid hf
  clear hf hne ha hb
  go_enter Try.func21, Try.ntmps21
  go_wp2
  go_ret
  exact ⟨by rw [HF.out]; rfl, Below.refl _ _⟩

theorem same_eq (a b : List Nat) (A D : Option Addr) (n c d : Nat) (ha : Hid (a.length = n)) (hb : Hid (b.length = n)) (hmax : n ≤ maxLen) (w : World) (hsa : Seen w w.heap.size A (intsV a)) (hsb : Seen w w.heap.size D (intsV b)) :
    Calls Try.prog 21 #[.slice A n c, .slice D n d] w fun e w' => e = .returned (.bool (a == b)) ∧ Below w.heap.size w w' := by
  unfold maxLen at hmax
  have h1 : ((n : Int) != (n : Int)) = false := by simp
  go_enter Try.func21, Try.ntmps21
  go_wp2
  go_loopw [5] (fun i wr => ∃ k : Nat, k ≤ n ∧ i = .int .i64 k ∧ Below w.heap.size w wr ∧ Hid (a.take k = b.take k)) (fun i _ => n - (intOf i).toNat)
  case atStart => exact ⟨0, Nat.zero_le _, rfl, Below.refl _ _, by simp [Hid]⟩
  case round =>
    obtain ⟨k, hk, rfl, hbw, heq⟩ := hrel
    by_cases hlt : k < n
    · have hka : k < a.length := by rw [ha.out]; exact hlt
      have hkb : k < b.length := by rw [hb.out]; exact hlt
      have hkn : (k : Int) < (n : Int) := by omega
      obtain ⟨b1, o1, rfl, hl1, c1⟩ := (hsa.below hbw).at1 (intsV_at hka)
      obtain ⟨b2, o2, rfl, hl2, c2⟩ := (hsb.below hbw).at1 (intsV_at hkb)
      generalize hx : a[k] = x at c1
      generalize hy : b[k] = y at c2
      have HX := Lib.hid hx
      have HY := Lib.hid hy
      clear hx hy
      by_cases hxy : x = y
      · have hne : ((x : Int) != (y : Int)) = false := by simp [hxy]
        have HXY := Lib.hid hxy
        clear hxy
        go_wp2
        go_quiet (fail)
        go_wp2
        go_roundw
        case rel =>
          refine ⟨k + 1, by omega, by go_num, hbw.trans ⟨rfl, rfl, rfl, Nat.le_refl _, fun _ _ => rfl⟩, ?_⟩
          show a.take (k + 1) = b.take (k + 1)
          rw [List.take_succ_eq_append_getElem hka, List.take_succ_eq_append_getElem hkb, heq.out, HX.out, HY.out, HXY.out]
        case measure => simp [intOf]; omega
      · have hne : ((x : Int) != (y : Int)) = true := by simp; omega
        have hf : (a == b) = false := by
          simp only [beq_eq_false_iff_ne]
          intro e
          subst e
          exact hxy (HX.out.symm.trans HY.out)
        have HF := Lib.hid hf
        clear hf hxy
        go_wp2
        go_quiet (fail)
        go_wp2
        go_ret
        exact ⟨by rw [HF.out]; rfl, hbw.trans ⟨rfl, rfl, rfl, Nat.le_refl _, fun _ _ => rfl⟩⟩
    · have hab : a = b := by
        have := heq.out
        rwa [List.take_of_length_le (by rw [ha.out]; omega), List.take_of_length_le (by rw [hb.out]; omega)] at this
      have hf : (a == b) = true := by simp [hab]
      have HF := Lib.hid hf
      clear hf hab
      go_wp2
      go_ret
      exact ⟨by rw [HF.out]; rfl, hbw⟩

theorem same_any (a b : List Nat) (A D : Option Addr) (n c m d : Nat) (ha : a.length = n) (hb : b.length = m) (hmax : n ≤ maxLen) (w : World) (hsa : Seen w w.heap.size A (intsV a)) (hsb : Seen w w.heap.size D (intsV b)) :
    Calls Try.prog 21 #[.slice A n c, .slice D m d] w fun e w' => e = .returned (.bool (a == b)) ∧ Below w.heap.size w w' := by
  by_cases h : n = m
  · subst h
    exact same_eq a b A D n c d ha hb hmax w hsa hsb
  · exact same_len a b A D n c m d ha hb h w
end Go.Proofs.Ytnobgbndgjfiaaa
