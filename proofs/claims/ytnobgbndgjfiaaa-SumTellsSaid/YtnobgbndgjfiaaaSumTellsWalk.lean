/- The law SumTells returns true and leaves all memory that was there as it was: for every slice of bytes. -/
import Derived.Test.YtnobgbndgjfiaaaSumAwake
namespace Go.Proofs.Ytnobgbndgjfiaaa
open Go.RowKit

theorem tells_any (l : List Nat) (A : Option Addr) (n c : Nat) (hl : l.length = n) (hc : n ≤ c) (hmax : c ≤ maxLen) (hby : ∀ b ∈ l, b < 256) (w : World) (hs : Seen w w.heap.size A (bytesV l)) :
    Calls Try.prog 3 #[.slice A n c] w fun e w' => e = .returned (.bool true) ∧ Below w.heap.size w w' := by
  by_cases h : (20000 : Int) < (n : Int)
  · clear hs hby hl
    go_enter Try.func3, Try.ntmps3
    go_wp2_with (go_at_call 15; refine (awake_any _).mono ?_; rintro e w1 ⟨rfl, hb⟩)
    go_ret
    exact ⟨rfl, hb⟩
  · have HL := Lib.hid hl
    clear hl
    go_enter Try.func3, Try.ntmps3
    go_wp2_with fail
    refine (awake_any _).mono ?_
    rintro e w1 ⟨rfl, hb⟩
    have hs1 := (hs.below hb).more hb.size
    go_wp2_with fail
    refine (of_any l A n c HL.out hc hmax hby _ hs1).mono ?_
    rintro e w2 ⟨rfl, hb2⟩
    have hs2 := (hs1.below hb2).more hb2.size
    go_wp2_with fail
    refine (refof_any l A n c HL.out (by omega) hby _ hs2).mono ?_
    rintro e w3 ⟨rfl, rfl⟩
    go_wp2
    go_ret
    exact ⟨rfl, hb.trans (hb2.mono hb.size)⟩
end Go.Proofs.Ytnobgbndgjfiaaa
