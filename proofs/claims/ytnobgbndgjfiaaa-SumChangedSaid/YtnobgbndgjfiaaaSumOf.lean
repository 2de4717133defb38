/- sum.Of, sum.Join and the reference's Of return the sum of the bytes (Join: of both rows in a row): for every list of bytes, and every slice that holds it. -/
import Derived.Test.YtnobgbndgjfiaaaSumAdd
import Derived.Laws.Bits64
namespace Go.Proofs.Ytnobgbndgjfiaaa
open Go.RowKit

theorem of_any (l : List Nat) (A : Option Addr) (n c : Nat) (hl : l.length = n) (hc : n ≤ c) (hmax : c ≤ maxLen) (hby : ∀ b ∈ l, b < 256) (w : World) (hs : Seen w w.heap.size A (bytesV l)) :
    Calls Try.prog 16 #[.slice A n c] w fun e w' => e = .returned (.int .u32 ((SumPure.sum l : Nat) : Int)) ∧ Below w.heap.size w w' := by
  have h := add_any [] l A n c hl hc hmax hby w hs
  rw [List.nil_append, show ((SumPure.sum [] : Nat) : Int) = 1 from by decide] at h
  clear hs hby hl
  go_enter Try.func16, Try.ntmps16
  go_wp2_with (go_at_call 18; refine h.mono ?_; rintro e w' ⟨rfl, hb⟩)
  go_ret
  exact ⟨rfl, hb⟩

theorem joined (a b : List Nat) : (SumPure.joinLow (SumPure.low a) (SumPure.low b) : Int) = (SumPure.low (a ++ b) : Nat) ∧ (SumPure.joinHigh (SumPure.low a) (SumPure.high a) (SumPure.high b) b.length : Int) = (SumPure.high (a ++ b) : Nat) :=
  ⟨by rw [SumPure.joinLow_eq], by rw [SumPure.joinHigh_eq]⟩

theorem join_low (la lb lab : Nat) (h : (((la + 65520) % 65521 + lb) % 65521 : Nat) = (lab : Int)) : ((la : Int) + 65521 - 1 + lb) % 65521 = lab := by
  omega
theorem join_prod (la n : Nat) : ((la : Int) + 65521 - 1) % 65521 * ((n : Int) % 65521) = (((la + 65520) % 65521 * (n % 65521) : Nat) : Int) := by
  have e1 : ((la : Int) + 65521 - 1) % 65521 = (((la + 65520) % 65521 : Nat) : Int) := by omega
  have e2 : (n : Int) % 65521 = ((n % 65521 : Nat) : Int) := by omega
  rw [e1, e2, ← Int.natCast_mul]
theorem join_le (la n : Nat) : (la + 65520) % 65521 * (n % 65521) ≤ 65520 * 65520 := Nat.mul_le_mul (by omega) (by omega)
theorem join_wrap (z : Nat) (h : z ≤ 65520 * 65520) : IntKind.u64.wrap (z : Int) = z := by rw [IntKind.wrap_u64]; omega
theorem join_tmod (z : Nat) : (z : Int).tmod 65521 = (z : Int) % 65521 := Int.tmod_eq_emod_of_nonneg (by omega)
theorem join_fits (ha hb z hab : Nat) (h2 : ha < 65521) (h4 : hb < 65521) (h : ((ha + hb + z % 65521) % 65521 : Nat) = (hab : Int)) : ((ha : Int) + hb + (z : Int) % 65521) % 4294967296 % 65521 = hab := by
  omega
theorem join_high (la lb ha hb n lab hab : Nat) (h2 : ha < 65521) (h4 : hb < 65521) (h : (((la + 65520) % 65521 + lb) % 65521 : Nat) = (lab : Int) ∧ ((ha + hb + (la + 65520) % 65521 * (n % 65521) % 65521) % 65521 : Nat) = (hab : Int)) :
    ((ha : Int) + hb + (IntKind.u64.wrap (((la : Int) + 65521 - 1) % 65521 * ((n : Int) % 65521))).tmod 65521) % 4294967296 % 65521 = hab := by
  rw [join_prod, join_wrap _ (join_le la n), join_tmod]
  exact join_fits ha hb _ hab h2 h4 h.2
theorem join_any (a b : List Nat) (n : Nat) (hn : b.length = n) (hmax : n ≤ maxLen) (w : World) :
    Calls Try.prog 19 #[.int .u32 ((SumPure.sum a : Nat) : Int), .int .u32 ((SumPure.sum b : Nat) : Int), .int .i64 (n : Int)] w fun e w' => e = .returned (.int .u32 ((SumPure.sum (a ++ b) : Nat) : Int)) ∧ w = w' := by
  unfold maxLen at hmax
  have p1 := parts_sum a
  have p2 := parts_sum b
  have p3 := whole_sum (a ++ b)
  have h1 := SumPure.low_lt a; have h2 := SumPure.high_lt a
  have h3 := SumPure.low_lt b; have h4 := SumPure.high_lt b
  have hj := joined a b
  unfold SumPure.P at h1 h2 h3 h4
  unfold SumPure.joinLow SumPure.joinHigh SumPure.P at hj
  rw [hn] at hj
  have HJ := Lib.hid hj
  clear hj hn
  generalize SumPure.sum (a ++ b) = sab at *
  generalize SumPure.low (a ++ b) = lab at *
  generalize SumPure.high (a ++ b) = hab at *
  generalize SumPure.sum a = sa at *
  generalize SumPure.sum b = sb at *
  generalize SumPure.low a = la at *
  generalize SumPure.low b = lb at *
  generalize SumPure.high a = ha at *
  generalize SumPure.high b = hb at *
  have P1 := Lib.hid p1
  have P2 := Lib.hid p2
  have P3 := Lib.hid p3
  clear p1 p2 p3
  go_enter Try.func19, Try.ntmps19
  go_wp2_with fail
  refine (P1.out _).mono ?_
  rintro e w' ⟨rfl, rfl⟩
  go_wp2_with fail
  refine (P2.out _).mono ?_
  rintro e w' ⟨rfl, rfl⟩
  go_wp2_with fail
  rw [join_low la lb lab HJ.out.1, join_high la lb ha hb n lab hab h2 h4 HJ.out]
  refine (P3.out _).mono ?_
  rintro e w' ⟨rfl, rfl⟩
  go_wp2
  go_ret
  exact ⟨rfl, rfl⟩

theorem low_step (l : List Nat) (k : Nat) (h : k < l.length) : SumPure.low (l.take (k + 1)) = (SumPure.low (l.take k) + l[k]) % 65521 := by
  unfold SumPure.low; rw [lo_step 1 l k h]; unfold SumPure.P; omega
theorem high_step (l : List Nat) (k : Nat) (h : k < l.length) : SumPure.high (l.take (k + 1)) = (SumPure.high (l.take k) + SumPure.low (l.take (k + 1))) % 65521 := by
  unfold SumPure.high SumPure.low; rw [hi_step 1 0 l k h]; unfold SumPure.P; omega

theorem ret_num {k : IntKind} {a b : Int} (h : a = b) : Value.int k a = .int k b := by rw [h]
theorem refof_any (l : List Nat) (A : Option Addr) (n c : Nat) (hl : l.length = n) (hmax : n ≤ maxLen) (hby : ∀ b ∈ l, b < 256) (w : World) (hs : Seen w w.heap.size A (bytesV l)) :
    Calls Try.prog 17 #[.slice A n c] w fun e w' => e = .returned (.int .u32 ((SumPure.sum l : Nat) : Int)) ∧ w = w' := by
  unfold maxLen at hmax
  go_enter Try.func17, Try.ntmps17
  go_wp2
  go_loop [3, 4, 5] (fun x y i => ∃ k : Nat, k ≤ n ∧ i = .int .i64 k ∧ x = .int .i64 ((SumPure.low (l.take k) : Nat) : Int) ∧ y = .int .i64 ((SumPure.high (l.take k) : Nat) : Int)) (fun _ _ i => n - (intOf i).toNat)
  case atStart => exact ⟨0, Nat.zero_le _, rfl, rfl, rfl⟩
  case round =>
    obtain ⟨k, hk, rfl, rfl, rfl⟩ := hrel
    have h1 := SumPure.low_lt (l.take k); have h2 := SumPure.high_lt (l.take k)
    unfold SumPure.P at h1 h2
    by_cases hlt : k < n
    · have hkl : k < l.length := by omega
      obtain ⟨ad, rfl, hbl, hcell⟩ := hs k _ (bytesV_at hkl)
      have hx := hby _ (List.getElem_mem hkl)
      have hL := Lib.hid (low_step l k hkl)
      have hH := Lib.hid (high_step l k hkl)
      generalize eL : SumPure.low (l.take (k + 1)) = L' at hL hH
      generalize eH : SumPure.high (l.take (k + 1)) = H' at hH
      have EL := Lib.hid eL
      have EH := Lib.hid eH
      clear eL eH
      generalize SumPure.low (l.take k) = L at *
      generalize SumPure.high (l.take k) = H at *
      generalize l[k] = x at *
      go_wp2
      go_round
      case rel => exact ⟨k + 1, by omega, by go_num, by rw [EL.out, hL.out]; exact ret_num (by omega), by rw [EH.out, hH.out, hL.out]; exact ret_num (by omega)⟩
      case measure => simp [intOf]; omega
    · have hk' : k = n := by omega
      rw [List.take_of_length_le (by omega)] at *
      have e : SumPure.sum l = SumPure.high l * 65536 + SumPure.low l := rfl
      generalize SumPure.low l = L at *
      generalize SumPure.high l = H at *
      have E := Lib.hid e
      clear hk' e
      go_wp2
      go_ret
      exact ⟨by rw [E.out]; congr 2, rfl⟩
end Go.Proofs.Ytnobgbndgjfiaaa
