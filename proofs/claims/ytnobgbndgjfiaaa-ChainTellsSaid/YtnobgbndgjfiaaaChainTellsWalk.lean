/- The law ChainTells returns true and leaves all memory that was there as it was: for every session, Seq and list of heads. -/
import Derived.Test.YtnobgbndgjfiaaaChainAwake
namespace Go.Proofs.Ytnobgbndgjfiaaa
open Go.RowKit ChainPure

theorem chainTells_any (s q : Nat) (hq : q ≤ last) (l : List Hd) (A : Option Addr) (n c : Nat) (hl : l.length = n) (hmax : n ≤ maxLen) (w : World) (hs : Seen w w.heap.size A (headsV l)) :
    Calls Try.prog 7 #[.int .u32 (s : Int), .int .u32 (q : Int), .slice A n c] w fun e w' => e = .returned (.bool true) ∧ Below w.heap.size w w' := by
  by_cases h : (200 : Int) < (n : Int)
  · clear hs hl
    go_enter Try.func7, Try.ntmps7
    go_wp2_with (go_at_call 20; refine (chainAwake_any _).mono ?_; rintro e w1 ⟨rfl, hb⟩)
    go_ret
    exact ⟨rfl, hb⟩
  · have HL := Lib.hid hl
    have H6 : Hid (n ≤ 1000000) := by
      show n ≤ 1000000
      omega
    clear hl
    go_enter Try.func7, Try.ntmps7
    go_wp2_with fail
    refine (chainAwake_any _).mono ?_
    rintro e w1 ⟨rfl, hb⟩
    have hs1 := (hs.below hb).more hb.size
    go_wp2_with fail
    refine (chainOf_any s q hq l A n c HL.out hmax _ hs1).mono ?_
    rintro e w2 ⟨A2, c2, rfl, hc2, hm2, hs2, hb2⟩
    have hs1' := (hs1.below hb2).more hb2.size
    go_wp2_with fail
    refine (heads_any l A n c HL H6.out _ hs1').mono ?_
    rintro e w3 ⟨A3, c3, rfl, hc3, hm3, hs3, hb3⟩
    have hs2' := (hs2.below hb3).more hb3.size
    go_wp2_with fail
    refine (refOf_any s q hq l A3 l.length c3 rfl (by rw [HL.out]; exact H6.out) _ hs3).mono ?_
    rintro e w4 ⟨A4, c4, rfl, hc4, hm4, hs4, hb4⟩
    have hs2'' := (hs2'.below hb4).more hb4.size
    go_wp2_with fail
    refine (same_any (chain s q l) (chain s q l) A2 A4 _ c2 _ c4 rfl rfl (by omega) _ hs2'' hs4).mono ?_
    rintro e w5 ⟨rfl, hb5⟩
    rw [show (chain s q l == chain s q l) = true from by simp]
    have hb15 : Below w1.heap.size w1 w5 := hb2.trans ((hb3.mono hb2.size).trans ((hb4.mono (Nat.le_trans hb2.size hb3.size)).trans (hb5.mono (Nat.le_trans hb2.size (Nat.le_trans hb3.size hb4.size)))))
    go_wp2
    go_ret
    exact ⟨rfl, hb.trans (hb15.mono hb.size)⟩
end Go.Proofs.Ytnobgbndgjfiaaa
