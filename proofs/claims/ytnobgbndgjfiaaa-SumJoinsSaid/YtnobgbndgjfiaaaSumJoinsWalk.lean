/- The law SumJoins returns true and leaves all memory that was there as it was: for every three slices of bytes and every int. -/
import Derived.Test.YtnobgbndgjfiaaaSumPartsWalk
namespace Go.Proofs.Ytnobgbndgjfiaaa
open Go.RowKit

theorem joinsum_any (a b d : List Nat) (n m : Nat) (hn : b.length = n) (hm : d.length = m) (h : n + m ≤ maxLen) (w : World) :
    Calls Try.prog 19 #[.int .u32 ((SumPure.sum a : Nat) : Int), .int .u32 ((SumPure.sum (b ++ d) : Nat) : Int), .int .i64 ((n : Int) + (m : Int))] w fun e w' => e = .returned (.int .u32 ((SumPure.sum (a ++ b ++ d) : Nat) : Int)) ∧ w = w' := by
  have := join_any a (b ++ d) (n + m) (by rw [List.length_append, hn, hm]) h w
  rwa [Int.natCast_add, ← List.append_assoc] at this

theorem S_zeros (q : Nat) : SumPure.S (List.replicate q 0) = 0 := by
  induction q with
  | zero => rfl
  | succ q ih => simp [List.replicate_succ, SumPure.S, ih]
theorem zeros_low (l : List Nat) (q : Nat) : ((SumPure.sum (l ++ List.replicate q 0) : Nat) : Int) % 65536 = ((SumPure.sum l : Nat) : Int) % 65536 := by
  rw [(sum_mod _).1, (sum_mod _).1]
  unfold SumPure.low SumPure.lo
  rw [SumPure.S_append, S_zeros, Nat.add_zero]

theorem made_bytes (q : Nat) : (madeCells (Value.int .u8 0).cells (q * 1)).toList = bytesV (List.replicate q 0) := by
  apply List.ext_getElem
  · simp [madeCells, bytesV]
  · intro i h1 h2
    simp [madeCells, bytesV, Value.cells, Nat.mod_one]

set_option maxHeartbeats 1000000 in
theorem joins_main (l0 l1 l2 : List Nat) (A0 A1 A2 : Option Addr) (n0 c0 n1 c1 n2 c2 : Nat) (hl0 : Hid (l0.length = n0)) (hc0 : n0 ≤ c0) (hm0 : c0 ≤ maxLen) (hb0 : ∀ b ∈ l0, b < 256)
    (hl1 : Hid (l1.length = n1)) (hc1 : n1 ≤ c1) (hm1 : c1 ≤ maxLen) (hb1 : ∀ b ∈ l1, b < 256) (hl2 : Hid (l2.length = n2)) (hc2 : n2 ≤ c2) (hm2 : c2 ≤ maxLen) (hb2 : ∀ b ∈ l2, b < 256)
    (q : Nat) (h0 : ¬ (20000 : Int) < (n0 : Int)) (h1 : ¬ (20000 : Int) < (n1 : Int)) (h2 : ¬ (20000 : Int) < (n2 : Int)) (h3 : ¬ (20000 : Int) < (q : Int)) (w : World)
    (hs0 : Seen w w.heap.size A0 (bytesV l0)) (hs1 : Seen w w.heap.size A1 (bytesV l1)) (hs2 : Seen w w.heap.size A2 (bytesV l2)) :
    Calls Try.prog 6 #[.slice A0 n0 c0, .slice A1 n1 c1, .slice A2 n2 c2, .int .i64 (q : Int)] w fun e w' => e = .returned (.bool true) ∧ Below w.heap.size w w' := by
  obtain ⟨i0, hi, hz0, hz1, hz2⟩ := info_parts info5
  have hq0 : (0 : Int) ≤ (q : Int) := by omega
  go_enter Try.func6, Try.ntmps6
  go_wp2_with fail
  refine (awake_any _).mono ?_
  rintro e w1 ⟨rfl, hb⟩
  replace hs0 := (hs0.below hb).more hb.size
  replace hs1 := (hs1.below hb).more hb.size
  replace hs2 := (hs2.below hb).more hb.size
  go_wp2_with fail
  refine (of_any l0 A0 n0 c0 hl0.out hc0 hm0 hb0 _ hs0).mono ?_
  rintro e w2 ⟨rfl, hb12⟩
  go_wp2_with fail
  refine (of_any l1 A1 n1 c1 hl1.out hc1 hm1 hb1 _ ((hs1.below hb12).more hb12.size)).mono ?_
  rintro e w3 ⟨rfl, hb3⟩
  have hb13 : Below w1.heap.size w1 w3 := hb12.trans (hb3.mono hb12.size)
  go_wp2_with fail
  refine (of_any l2 A2 n2 c2 hl2.out hc2 hm2 hb2 _ ((hs2.below hb13).more hb13.size)).mono ?_
  rintro e w4 ⟨rfl, hb4⟩
  have hb14 : Below w1.heap.size w1 w4 := hb13.trans (hb4.mono hb13.size)
  clear hb12 hb3 hb13 hb4 hs0 hs1 hs2
  go_wp2_with fail
  refine (join_any l0 l1 n1 hl1.out (by omega) _).mono ?_
  rintro e w5 ⟨rfl, rfl⟩
  go_wp2_with fail
  refine (join_any (l0 ++ l1) l2 n2 hl2.out (by omega) _).mono ?_
  rintro e w5 ⟨rfl, rfl⟩
  go_wp2_with fail
  refine (join_any l1 l2 n2 hl2.out (by omega) _).mono ?_
  rintro e w5 ⟨rfl, rfl⟩
  go_wp2_with fail
  refine (joinsum_any l0 l1 l2 n1 n2 hl1.out hl2.out (by unfold maxLen; omega) _).mono ?_
  rintro e w5 ⟨rfl, rfl⟩
  go_wp2_with (at_make; refine wpList_make_full _ rfl (.tmp 65) (.tmp 65) 22 rfl w1.heap.size 5 i0 _ 1 Try.underlying22 hi hz0 hz1 .i64 .i64 (q : Int) (q : Int) q rfl rfl rfl rfl ?b2 ?b3 ?b4 ?_; (case b2 => rw [hz2]; omega); (case b3 => unfold maxLen; omega); (case b4 => exact hb14.size); intro w5 hown hg)
  have hz5 : Seen w5 w5.heap.size (some ⟨w4.heap.size, 0, none⟩) (bytesV (List.replicate q 0)) := by
    rw [← made_bytes]
    exact fun j u hj => ⟨_, rfl, (hown.lt _ rfl).2, hown.cells rfl j u hj⟩
  have hb15 : Below w1.heap.size w1 w5 := hb14.grown hg hb14.size (fun k hk => by cases hk)
  have hzb : ∀ b ∈ List.replicate q 0, b < 256 := fun b hb => by rw [List.eq_of_mem_replicate hb]; omega
  have hzq : Hid ((List.replicate q 0).length = q) := List.length_replicate
  have hzl := zeros_low l0 q
  have HZ := Lib.hid hzl
  clear hown hg hzl hb14
  generalize List.replicate q 0 = zs at *
  refine (of_any zs _ q q hzq.out (Nat.le_refl _) (by unfold maxLen; omega) hzb _ hz5).mono ?_
  rintro e w6 ⟨rfl, hb6⟩
  have hb16 : Below w1.heap.size w1 w6 := hb15.trans (hb6.mono hb15.size)
  replace hz5 := (hz5.below hb6).more hb6.size
  go_wp2_with fail
  refine (join_any l0 zs q hzq.out (by unfold maxLen; omega) _).mono ?_
  rintro e w7 ⟨rfl, rfl⟩
  go_wp2_with fail
  refine (add_any l0 zs _ q q hzq.out (Nat.le_refl _) (by unfold maxLen; omega) hzb _ hz5).mono ?_
  rintro e w8 ⟨rfl, hb8⟩
  have hb18 : Below w1.heap.size w1 w8 := hb16.trans (hb8.mono hb16.size)
  replace hz5 := (hz5.below hb8).more hb8.size
  go_wp2_with fail
  refine (add_any l0 zs _ q q hzq.out (Nat.le_refl _) (by unfold maxLen; omega) hzb _ hz5).mono ?_
  rintro e w9 ⟨rfl, hb9⟩
  have hb19 : Below w1.heap.size w1 w9 := hb18.trans (hb9.mono hb18.size)
  have hzl := HZ.out
  go_wp2
  go_ret
  exact ⟨rfl, hb.trans (hb19.mono hb.size)⟩

theorem joinsLaw_any (l0 l1 l2 : List Nat) (A0 A1 A2 : Option Addr) (n0 c0 n1 c1 n2 c2 : Nat) (hl0 : l0.length = n0) (hc0 : n0 ≤ c0) (hm0 : c0 ≤ maxLen) (hb0 : ∀ b ∈ l0, b < 256)
    (hl1 : l1.length = n1) (hc1 : n1 ≤ c1) (hm1 : c1 ≤ maxLen) (hb1 : ∀ b ∈ l1, b < 256) (hl2 : l2.length = n2) (hc2 : n2 ≤ c2) (hm2 : c2 ≤ maxLen) (hb2 : ∀ b ∈ l2, b < 256)
    (z : Int) (w : World) (hs0 : Seen w w.heap.size A0 (bytesV l0)) (hs1 : Seen w w.heap.size A1 (bytesV l1)) (hs2 : Seen w w.heap.size A2 (bytesV l2)) :
    Calls Try.prog 6 #[.slice A0 n0 c0, .slice A1 n1 c1, .slice A2 n2 c2, .int .i64 z] w fun e w' => e = .returned (.bool true) ∧ Below w.heap.size w w' := by
  by_cases h : (20000 : Int) < (n0 : Int) ∨ (20000 : Int) < (n1 : Int) ∨ (20000 : Int) < (n2 : Int) ∨ z < 0 ∨ 20000 < z
  · clear hs0 hs1 hs2 hl0 hl1 hl2 hb0 hb1 hb2
    by_cases g0 : (20000 : Int) < (n0 : Int)
    · clear h
      go_enter Try.func6, Try.ntmps6
      go_wp2_with (go_at_call 15; refine (awake_any _).mono ?_; rintro e w1 ⟨rfl, hb⟩)
      go_ret
      exact ⟨rfl, hb⟩
    · by_cases g1 : (20000 : Int) < (n1 : Int)
      · clear h
        go_enter Try.func6, Try.ntmps6
        go_wp2_with (go_at_call 15; refine (awake_any _).mono ?_; rintro e w1 ⟨rfl, hb⟩)
        go_ret
        exact ⟨rfl, hb⟩
      · by_cases g2 : (20000 : Int) < (n2 : Int)
        · clear h
          go_enter Try.func6, Try.ntmps6
          go_wp2_with (go_at_call 15; refine (awake_any _).mono ?_; rintro e w1 ⟨rfl, hb⟩)
          go_ret
          exact ⟨rfl, hb⟩
        · by_cases g3 : z < 0
          · clear h
            go_enter Try.func6, Try.ntmps6
            go_wp2_with (go_at_call 15; refine (awake_any _).mono ?_; rintro e w1 ⟨rfl, hb⟩)
            go_ret
            exact ⟨rfl, hb⟩
          · have g4 : 20000 < z := by omega
            clear h
            go_enter Try.func6, Try.ntmps6
            go_wp2_with (go_at_call 15; refine (awake_any _).mono ?_; rintro e w1 ⟨rfl, hb⟩)
            go_ret
            exact ⟨rfl, hb⟩
  · obtain ⟨q, rfl⟩ := Int.eq_ofNat_of_zero_le (show 0 ≤ z by omega)
    exact joins_main l0 l1 l2 A0 A1 A2 n0 c0 n1 c1 n2 c2 hl0 hc0 hm0 hb0 hl1 hc1 hm1 hb1 hl2 hc2 hm2 hb2 q (by omega) (by omega) (by omega) (by omega) w hs0 hs1 hs2
end Go.Proofs.Ytnobgbndgjfiaaa
