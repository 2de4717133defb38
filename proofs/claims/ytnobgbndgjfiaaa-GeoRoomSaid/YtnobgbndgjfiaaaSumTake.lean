/- The closure inside sum.Add: behind a run of at most 5000 bytes the two captured variables hold the two numbers' remainders, and no other memory has turned. -/
import Derived.Test.YtnobgbndgjfiaaaProg
import Derived.Test.YtnobgbndgjfiaaaMem
import Derived.Test.YtnobgbndgjfiaaaSumPure
import Derived.WalkKit
import Derived.RegionTactic
import Derived.ChangeAlike
import Derived.Outline
import Derived.Lib.Hide
import Derived.WalkLawsBesides
namespace Go.Proofs.Ytnobgbndgjfiaaa
open Go.RowKit

/-- Bytes as cells. -/
def bytesV (l : List Nat) : List Value := l.map fun b : Nat => .int .u8 (b : Int)
theorem bytesV_length (l : List Nat) : (bytesV l).length = l.length := by simp [bytesV]
theorem bytesV_at {l : List Nat} {k : Nat} (h : k < l.length) : (bytesV l)[k]? = some (.int .u8 ((l[k] : Nat) : Int)) := by simp [bytesV, h]

open SumPure in
theorem lo_step (a : Nat) (l : List Nat) (k : Nat) (h : k < l.length) : lo a (l.take (k + 1)) = lo a (l.take k) + l[k] := by
  rw [List.take_succ_eq_append_getElem h]; unfold lo; rw [S_append]; simp [S]; omega
open SumPure in
theorem hi_step (a b : Nat) (l : List Nat) (k : Nat) (h : k < l.length) : hi a b (l.take (k + 1)) = hi a b (l.take k) + lo a (l.take (k + 1)) := by
  rw [List.take_succ_eq_append_getElem h, hi_append, lo_append]
  generalize lo a (l.take k) = x
  unfold hi lo; simp [S, T]; omega

theorem take_any (A : Option Addr) (n c : Nat) (l : List Nat) (hl : l.length = n) (hn : n ≤ 5000) (hby : ∀ b ∈ l, b < 256) (lo0 hi0 : Nat) (hlo : lo0 < 65536) (hhi : hi0 < 65536)
    (B B1 B2 : Nat) (w : World) (hB1 : B ≤ B1) (hB2 : B ≤ B2) (hne : B1 ≠ B2) (h1 : w.heap[B1]? = some (.cells #[.int .u32 (lo0 : Nat)] 24 (0, 0))) (h2 : w.heap[B2]? = some (.cells #[.int .u32 (hi0 : Nat)] 24 (0, 0)))
    (hs : Seen w B A (bytesV l)) :
    Calls Try.prog 39 #[.slice A n c, .pointer (some ⟨B1, 0, none⟩), .pointer (some ⟨B2, 0, none⟩)] w fun e w' => e = .returned (.tuple #[]) ∧ Below B w w' ∧ w'.heap.size = w.heap.size ∧
      w'.heap[B1]? = some (.cells #[.int .u32 ((SumPure.lo lo0 l % SumPure.P : Nat) : Int)] 24 (0, 0)) ∧ w'.heap[B2]? = some (.cells #[.int .u32 ((SumPure.hi lo0 hi0 l % SumPure.P : Nat) : Int)] 24 (0, 0)) := by
  go_enter Try.func39, Try.ntmps39
  go_wp2
  go_loopw [8] (fun i wr => ∃ k : Nat, k ≤ n ∧ i = .int .i64 k ∧ Below B w wr ∧ wr.heap.size = w.heap.size ∧
      wr.heap[B1]? = some (.cells #[.int .u32 ((SumPure.lo lo0 (l.take k) : Nat) : Int)] 24 (0, 0)) ∧ wr.heap[B2]? = some (.cells #[.int .u32 ((SumPure.hi lo0 hi0 (l.take k) : Nat) : Int)] 24 (0, 0)))
    (fun i _ => n - (intOf i).toNat)
  case atStart => exact ⟨0, Nat.zero_le _, rfl, Below.refl _ _, rfl, by simpa [SumPure.lo, SumPure.S] using h1, by simpa [SumPure.hi, SumPure.T] using h2⟩
  case round =>
    obtain ⟨k, hk, rfl, hb, hsz, g1, g2⟩ := hrel
    clear h1 h2
    by_cases hlt : k < n
    · have hkl : k < l.length := by omega
      obtain ⟨ad, rfl, hbl, hcell⟩ := (hs.below hb) k _ (bytesV_at hkl)
      have hL := lo_step lo0 l k hkl
      have hH := hi_step lo0 hi0 l k hkl
      have hfit := SumPure.run_fits (l := l.take (k + 1)) (fun b hb => hby b (List.mem_of_mem_take hb)) (by simp; omega) hlo hhi
      generalize eL : SumPure.lo lo0 (l.take (k + 1)) = L' at hL hH hfit
      generalize eH : SumPure.hi lo0 hi0 (l.take (k + 1)) = H' at hH hfit
      have EL := Lib.hid eL
      have EH := Lib.hid eH
      clear eL eH
      generalize SumPure.lo lo0 (l.take k) = L at hL g1
      generalize SumPure.hi lo0 hi0 (l.take k) = H at hH g2
      generalize l[k] = x at hL hcell
      have c1 := cell_of_one g1
      have f1 := free_of_one g1
      have c2 := cell_of_one g2
      have f2 := free_of_one g2
      have b1 : (L : Int) + x < 4294967296 := by have := hfit.1; omega
      have b2 : (H : Int) + (L + x) < 4294967296 := by have := hfit.2; omega
      have HL := Lib.hid hL
      have HH := Lib.hid hH
      clear hL hH
      go_wp2
      go_roundw
      case rel => exact ⟨k + 1, by omega, by go_num, (hb.setCell hB1 _).setCell hB2 _, by simpa using hsz, by rw [EL.out, Below.heap_setCell _ _ _ _ hne, one_setCell g1]; congr 5; have := HL.out; omega, by rw [EH.out, one_setCell ((Below.heap_setCell _ _ _ _ (Ne.symm hne)).trans g2)]; congr 5; have := HL.out; have := HH.out; omega⟩
      case measure => simp [intOf]; omega
    · have hk' : k = n := by omega
      have e1 : l.take k = l := by rw [List.take_of_length_le (by omega)]
      rw [e1] at g1 g2
      clear hk' e1
      generalize eL : SumPure.lo lo0 l = L at g1
      generalize eH : SumPure.hi lo0 hi0 l = H at g2
      have EL := Lib.hid eL
      have EH := Lib.hid eH
      clear eL eH
      have c1 := cell_of_one g1
      have f1 := free_of_one g1
      have c2 := cell_of_one g2
      have f2 := free_of_one g2
      go_wp2
      go_region
      go_end0
      exact ⟨rfl, ((hb.setCell hB1 _).setCell hB2 _).drew, by simpa using hsz, by
        show ((wr.setCell ⟨B1, 0, none⟩ _).setCell ⟨B2, 0, none⟩ _).heap[B1]? = _
        rw [Below.heap_setCell _ _ _ _ hne, one_setCell g1, EL.out]; rfl, by
        show ((wr.setCell ⟨B1, 0, none⟩ _).setCell ⟨B2, 0, none⟩ _).heap[B2]? = _
        rw [one_setCell ((Below.heap_setCell _ _ _ _ (Ne.symm hne)).trans g2), EH.out]; rfl⟩
end Go.Proofs.Ytnobgbndgjfiaaa
