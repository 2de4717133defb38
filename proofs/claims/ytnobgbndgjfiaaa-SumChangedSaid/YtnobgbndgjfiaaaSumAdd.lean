/- sum.Add: of the sum of some bytes, and any bytes more, it returns the sum of both in a row: for every list of bytes, and every slice that holds it. -/
import Derived.Test.YtnobgbndgjfiaaaSumTake
import Derived.Test.YtnobgbndgjfiaaaSumBits
import Derived.WalkSpells
namespace Go.Proofs.Ytnobgbndgjfiaaa
open Go.RowKit

theorem sum_mod (m : List Nat) : ((SumPure.sum m : Nat) : Int) % 65536 = (SumPure.low m : Nat) ∧ ((SumPure.sum m : Nat) : Int) / 65536 = (SumPure.high m : Nat) ∧ ((SumPure.sum m : Nat) : Int) < 4294967296 := by
  have h1 := SumPure.low_lt m; have h2 := SumPure.high_lt m
  unfold SumPure.sum SumPure.P at *; omega

theorem parts_sum (m : List Nat) (w : World) :
    Calls Try.prog 38 #[.int .u32 ((SumPure.sum m : Nat) : Int)] w fun e w' => e = .returned (.tuple #[.int .u32 ((SumPure.low m : Nat) : Int), .int .u32 ((SumPure.high m : Nat) : Int)]) ∧ w = w' := by
  obtain ⟨h1, h2, h3⟩ := sum_mod m
  rw [← h1, ← h2]
  exact parts_any _ (by omega) h3 w

theorem whole_sum (m : List Nat) (w : World) :
    Calls Try.prog 40 #[.int .u32 ((SumPure.low m : Nat) : Int), .int .u32 ((SumPure.high m : Nat) : Int)] w fun e w' => e = .returned (.int .u32 ((SumPure.sum m : Nat) : Int)) ∧ w = w' := by
  have h1 := SumPure.low_lt m; have h2 := SumPure.high_lt m
  unfold SumPure.P at h1 h2
  rw [show ((SumPure.sum m : Nat) : Int) = (SumPure.high m : Nat) * 65536 + (SumPure.low m : Nat) from by unfold SumPure.sum; omega]
  exact whole_any _ _ (by omega) (by omega) (by omega) (by omega) w

theorem bytesV_take (l : List Nat) (q : Nat) : bytesV (l.take q) = (bytesV l).take q := by simp [bytesV, List.map_take]
theorem bytesV_drop (l : List Nat) (q : Nat) : bytesV (l.drop q) = (bytesV l).drop q := by simp [bytesV, List.map_drop]
theorem more_low (m l : List Nat) (k q : Nat) : SumPure.lo (SumPure.low (m ++ l.take k)) ((l.drop k).take q) % SumPure.P = SumPure.low (m ++ l.take (k + q)) := by
  rw [SumPure.lo_low, List.append_assoc, ← List.take_add]
theorem more_high (m l : List Nat) (k q : Nat) : SumPure.hi (SumPure.low (m ++ l.take k)) (SumPure.high (m ++ l.take k)) ((l.drop k).take q) % SumPure.P = SumPure.high (m ++ l.take (k + q)) := by
  rw [SumPure.hi_high, List.append_assoc, ← List.take_add]

/-- One run: what the closure does to the two variables. -/
theorem run_any (m l : List Nat) (n k q : Nat) (A' : Option Addr) (hl : l.length = n) (hk : k + q ≤ n) (hq : q ≤ 5000) (hby : ∀ b ∈ l, b < 256) (B : Nat) (w : World)
    (hs : Seen w B A' (bytesV (l.drop k))) (g1 : w.heap[B]? = some (.cells #[.int .u32 ((SumPure.low (m ++ l.take k) : Nat) : Int)] 24 (0, 0)))
    (g2 : w.heap[B + 1]? = some (.cells #[.int .u32 ((SumPure.high (m ++ l.take k) : Nat) : Int)] 24 (0, 0))) :
    Calls Try.prog 39 #[.slice A' q q, .pointer (some ⟨B, 0, none⟩), .pointer (some ⟨B + 1, 0, none⟩)] w fun e w' => e = .returned (.tuple #[]) ∧ Below B w w' ∧ w'.heap.size = w.heap.size ∧
      w'.heap[B]? = some (.cells #[.int .u32 ((SumPure.low (m ++ l.take (k + q)) : Nat) : Int)] 24 (0, 0)) ∧ w'.heap[B + 1]? = some (.cells #[.int .u32 ((SumPure.high (m ++ l.take (k + q)) : Nat) : Int)] 24 (0, 0)) := by
  rw [← more_low, ← more_high]
  have h1 := SumPure.low_lt (m ++ l.take k); have h2 := SumPure.high_lt (m ++ l.take k)
  unfold SumPure.P at h1 h2
  exact take_any A' q q _ (by simp; omega) hq (fun b hb => hby b (List.mem_of_mem_drop (List.mem_of_mem_take hb))) _ _ (by omega) (by omega) B B (B + 1) w (Nat.le_refl _) (by omega) (by omega) g1 g2 (by rw [bytesV_take]; exact hs.take q)

theorem cut_value (A : Option Addr) (n c k q : Nat) : Value.slice (if c - k = q then A else A.map (·.add q)) (n - k - q) (c - k - q) = Value.slice (if c - k = q then A else A.map (·.add q)) (n - (k + q)) (c - (k + q)) := by
  rw [Nat.sub_sub, Nat.sub_sub]
theorem cut_seen {A : Option Addr} {n c k q B : Nat} {l : List Nat} {w w2 : World} (hs : Seen w B A (bytesV (l.drop k))) (hb : Below B w w2) (hl : l.length = n) (h : k + q ≤ n) (hc : n ≤ c) :
    Seen w2 B (if c - k = q then A else A.map (·.add q)) (bytesV (l.drop (k + q))) := by
  have := (hs.below hb).cut (n := n - k) (cap := c - k) (k := q) (by omega) (by omega) (by rw [bytesV_length]; simp; omega)
  rwa [← bytesV_drop, List.drop_drop] at this

theorem add_any (m l : List Nat) (A : Option Addr) (n c : Nat) (hl : l.length = n) (hc : n ≤ c) (_hmax : c ≤ maxLen) (hby : ∀ b ∈ l, b < 256) (w : World) (hs : Seen w w.heap.size A (bytesV l)) :
    Calls Try.prog 18 #[.int .u32 ((SumPure.sum m : Nat) : Int), .slice A n c] w fun e w' => e = .returned (.int .u32 ((SumPure.sum (m ++ l) : Nat) : Int)) ∧ Below w.heap.size w w' := by
  unfold maxLen at _hmax
  go_enter Try.func18, Try.ntmps18
  go_wp2_with (go_at_call 38; refine (parts_sum _ _).mono ?_; rintro e w' ⟨rfl, rfl⟩)
  go_loopw [1] (fun b wr => ∃ (k : Nat) (A' : Option Addr), k ≤ n ∧ b = .slice A' (n - k : Nat) (c - k : Nat) ∧ Seen wr w.heap.size A' (bytesV (l.drop k)) ∧ Below w.heap.size w wr ∧ wr.heap.size = w.heap.size + 2 ∧
      wr.heap[w.heap.size]? = some (.cells #[.int .u32 ((SumPure.low (m ++ l.take k) : Nat) : Int)] 24 (0, 0)) ∧ wr.heap[w.heap.size + 1]? = some (.cells #[.int .u32 ((SumPure.high (m ++ l.take k) : Nat) : Int)] 24 (0, 0)))
    (fun b _ => match b with | .slice _ q _ => q | _ => 0)
  case atStart =>
    refine ⟨0, A, Nat.zero_le _, rfl, ?_, ?_, by simp, ?_, ?_⟩
    · exact hs.below (((Below.refl _ _).alloc (Nat.le_refl _) _).alloc (by simp) _)
    · exact ((Below.refl _ _).alloc (Nat.le_refl _) _).alloc (by simp) _
    · rw [Below.heap_alloc _ _ _ (by simp)]
      simpa using heap_alloc_new w (.cells #[.int .u32 ((SumPure.low m : Nat) : Int)] 24)
    · simpa using heap_alloc_new (w.alloc (.cells #[.int .u32 ((SumPure.low m : Nat) : Int)] 24)) (.cells #[.int .u32 ((SumPure.high m : Nat) : Int)] 24)
  case round =>
    obtain ⟨k, A', hk, rfl, hs', hb, hsz, g1, g2⟩ := hrel
    clear hs
    by_cases hlt : k < n
    · by_cases hmin : 5000 ≤ n - k
      · go_wp2_with fail
        refine (run_any m l n k 5000 A' hl (by omega) (by omega) hby w.heap.size wr hs' g1 g2).mono ?_
        rintro e w2 ⟨rfl, hb2, hsz2, g1', g2'⟩
        go_wp2
        go_roundw
        case rel => exact ⟨k + 5000, _, by omega, cut_value A' n c k 5000, cut_seen hs' hb2 hl (by omega) (by omega), hb.trans hb2, by omega, g1', g2'⟩
        case measure => simp; omega
      · obtain ⟨q, rfl⟩ : ∃ q, n = k + q := ⟨n - k, by omega⟩
        rw [show k + q - k = q from by omega]
        have hq0 : 0 < q := by omega
        have hq1 : q < 5000 := by omega
        have hq2 : k + q ≤ c := hc
        clear hmin hlt hk
        go_wp2_with fail
        refine (run_any m l (k + q) k q A' hl (by omega) (by omega) hby w.heap.size wr hs' g1 g2).mono ?_
        rintro e w2 ⟨rfl, hb2, hsz2, g1', g2'⟩
        go_wp2
        go_roundw
        case rel => exact ⟨k + q, if c - k = q then A' else A'.map (·.add q), by omega, by simp [Nat.sub_sub], cut_seen hs' hb2 hl (by omega) (by omega), hb.trans hb2, by omega, g1', g2'⟩
        case measure => simp; omega
    · have hk' : k = n := by omega
      rw [List.take_of_length_le (by omega)] at g1 g2
      have c1 := cell_of_one g1
      have c2 := cell_of_one g2
      have hz : n - k = 0 := by omega
      rw [hz]
      clear hk' hz
      go_wp2_with (go_at_call 40; refine (whole_sum _ _).mono ?_; rintro e w' ⟨rfl, rfl⟩)
      go_ret
      exact ⟨rfl, hb⟩
end Go.Proofs.Ytnobgbndgjfiaaa
