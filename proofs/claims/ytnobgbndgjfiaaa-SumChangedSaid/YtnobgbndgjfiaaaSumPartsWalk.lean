/- The law SumParts returns true and leaves all memory that was there as it was: for every two slices of bytes. -/
import Derived.Test.YtnobgbndgjfiaaaSumAwake
import Derived.Test.YtnobgbndgjfiaaaAppend
namespace Go.Proofs.Ytnobgbndgjfiaaa
open Go.RowKit

theorem info5 : (Try.prog.info? 5).map (fun i => (i.zero, i.size, i.bytes)) = some (some (.int .u8 0), 1, 1) := by kernel_rfl
theorem bytesV_one (l : List Nat) : ∀ u ∈ bytesV l, u.oneCell' = true := fun u hu => by
  obtain ⟨b, _, rfl⟩ := List.mem_map.1 hu
  rfl
theorem bytesV_append (l m : List Nat) : bytesV (l ++ m) = bytesV l ++ bytesV m := by simp [bytesV]

/-- A new row of no cells is owned. -/
theorem own_empty (W : World) (B : Nat) (e : TypeId) (size : Nat) (hB : B ≤ W.heap.size) : (W.alloc (.cells #[] e)).ownsRow B e size (.slice (some ⟨W.heap.size, 0, none⟩) 0 0) 0 [] :=
  World.ownsRow_made W #[] 0 hB (by decide) (by simp)

theorem add0_any (m : List Nat) (w : World) : Calls Try.prog 18 #[.int .u32 ((SumPure.sum m : Nat) : Int), .slice none 0 0] w fun e w' => e = .returned (.int .u32 ((SumPure.sum m : Nat) : Int)) ∧ Below w.heap.size w w' := by
  have h := add_any m [] none 0 0 rfl (by omega) (by decide) (by simp) w (Seen.nil _ _ _)
  rwa [List.append_nil] at h
theorem join0_any (m : List Nat) (w : World) : Calls Try.prog 19 #[.int .u32 ((SumPure.sum m : Nat) : Int), .int .u32 1, .int .i64 0] w fun e w' => e = .returned (.int .u32 ((SumPure.sum m : Nat) : Int)) ∧ w = w' := by
  have h := join_any m [] 0 rfl (by decide) w
  rwa [List.append_nil, show ((SumPure.sum [] : Nat) : Int) = 1 from by decide] at h

set_option maxHeartbeats 1000000 in
theorem parts_main (l m : List Nat) (A D : Option Addr) (n c k d : Nat) (hl : Hid (l.length = n)) (hc : n ≤ c) (hmax : c ≤ maxLen) (hby : ∀ b ∈ l, b < 256)
    (hm : Hid (m.length = k)) (hd : k ≤ d) (hmax' : d ≤ maxLen) (hby' : ∀ b ∈ m, b < 256) (h1 : ¬ (20000 : Int) < (n : Int)) (h2 : ¬ (20000 : Int) < (k : Int)) (w : World)
    (hs : Seen w w.heap.size A (bytesV l)) (hs' : Seen w w.heap.size D (bytesV m)) :
    Calls Try.prog 4 #[.slice A n c, .slice D k d] w fun e w' => e = .returned (.bool true) ∧ Below w.heap.size w w' := by
  obtain ⟨i0, hi, hz0, hz1, hz2⟩ := info_parts info5
  go_enter Try.func4, Try.ntmps4
  go_wp2_with fail
  refine (awake_any _).mono ?_
  rintro e w1 ⟨rfl, hb⟩
  have hs1 := (hs.below hb).more hb.size
  have hs1' := (hs'.below hb).more hb.size
  clear hs hs'
  go_wp2_with (first
    | (at_builtin; refine wpList_append_seen _ rfl (.tmp 16) (.tmp 17) _ rfl w1.heap.size 5 i0 _ 1 1 Try.underlying22 hi hz0 hz1 hz2 rfl (by omega) _ 0 [] rfl (own_empty w1 w1.heap.size 5 1 (Nat.le_refl _)) w1.heap.size A n c (bytesV l) rfl ?h1 ?h2 ?h3 ?h4 ?h5 ?h6 ?_; (case h1 => rw [bytesV_length, hl.out]; omega); (case h2 => exact hs1.below ((Below.refl _ _).alloc (Nat.le_refl _) _)); (case h3 => exact bytesV_one l); (case h4 => unfold maxLen; omega); (case h5 => omega); (case h6 => simp); intro A2 c2 w2 own2 hb2 hc2 hm2 hs2; simp only [Nat.zero_add, List.nil_append] at own2 hc2 hs2)
    | (at_builtin; refine wpList_append_seen _ rfl (.tmp 18) (.tmp 19) _ rfl w1.heap.size 5 i0 _ 1 1 Try.underlying22 hi hz0 hz1 hz2 rfl (by omega) _ n (bytesV l) rfl own2 w1.heap.size D k d (bytesV m) rfl ?g1 ?g2 ?g3 ?g4 ?g5 ?g6 ?_; (case g1 => rw [bytesV_length, hm.out]; omega); (case g2 => exact (hs1'.below ((Below.refl _ _).alloc (Nat.le_refl _) _)).below hb2); (case g3 => exact bytesV_one m); (case g4 => unfold maxLen; omega); (case g5 => omega); (case g6 => exact Nat.le_trans (by simp) hb2.size); intro A3 c3 w3 own3 hb3 hc3 hm3 hs3))
  have hb13 : Below w1.heap.size w1 w3 := (((Below.refl _ _).alloc (Nat.le_refl _) _).trans hb2).trans hb3
  have hlm : (l ++ m).length = n + k := by rw [List.length_append, hl.out, hm.out]
  have hs3' : Seen w3 w3.heap.size A3 (bytesV (l ++ m)) := by rw [bytesV_append]; exact hs3
  have H3 := of_any (l ++ m) A3 (n + k) c3 hlm hc3 hm3 (fun b hb => by rcases List.mem_append.1 hb with h | h; exact hby b h; exact hby' b h) w3 hs3'
  clear hlm hs3 hs3' own3 own2 hs2 hb2 hb3
  refine H3.mono ?_
  rintro e w4 ⟨rfl, hb4⟩
  have hb14 : Below w1.heap.size w1 w4 := hb13.trans (hb4.mono hb13.size)
  go_wp2_with fail
  refine (of_any l A n c hl.out hc hmax hby _ ((hs1.below hb14).more hb14.size)).mono ?_
  rintro e w5 ⟨rfl, hb5⟩
  have hb15 : Below w1.heap.size w1 w5 := hb14.trans (hb5.mono hb14.size)
  go_wp2_with fail
  refine (add_any l m D k d hm.out hd hmax' hby' _ ((hs1'.below hb15).more hb15.size)).mono ?_
  rintro e w6 ⟨rfl, hb6⟩
  have hb16 : Below w1.heap.size w1 w6 := hb15.trans (hb6.mono hb15.size)
  go_wp2_with fail
  refine (of_any l A n c hl.out hc hmax hby _ ((hs1.below hb16).more hb16.size)).mono ?_
  rintro e w7 ⟨rfl, hb7⟩
  have hb17 : Below w1.heap.size w1 w7 := hb16.trans (hb7.mono hb16.size)
  go_wp2_with fail
  refine (of_any m D k d hm.out hd hmax' hby' _ ((hs1'.below hb17).more hb17.size)).mono ?_
  rintro e w8 ⟨rfl, hb8⟩
  have hb18 : Below w1.heap.size w1 w8 := hb17.trans (hb8.mono hb17.size)
  go_wp2_with fail
  refine (join_any l m k hm.out (by omega) _).mono ?_
  rintro e w9 ⟨rfl, rfl⟩
  go_wp2_with fail
  refine (add0_any (l ++ m) _).mono ?_
  rintro e w10 ⟨rfl, hb10⟩
  have hb110 : Below w1.heap.size w1 w10 := hb18.trans (hb10.mono hb18.size)
  go_wp2_with fail
  refine (join0_any (l ++ m) _).mono ?_
  rintro e w11 ⟨rfl, rfl⟩
  go_wp2
  go_ret
  exact ⟨rfl, hb.trans (hb110.mono hb.size)⟩

theorem partsLaw_any (l m : List Nat) (A D : Option Addr) (n c k d : Nat) (hl : l.length = n) (hc : n ≤ c) (hmax : c ≤ maxLen) (hby : ∀ b ∈ l, b < 256)
    (hm : m.length = k) (hd : k ≤ d) (hmax' : d ≤ maxLen) (hby' : ∀ b ∈ m, b < 256) (w : World) (hs : Seen w w.heap.size A (bytesV l)) (hs' : Seen w w.heap.size D (bytesV m)) :
    Calls Try.prog 4 #[.slice A n c, .slice D k d] w fun e w' => e = .returned (.bool true) ∧ Below w.heap.size w w' := by
  by_cases h1 : (20000 : Int) < (n : Int)
  · clear hs hs' hby hby' hl hm
    go_enter Try.func4, Try.ntmps4
    go_wp2_with (go_at_call 15; refine (awake_any _).mono ?_; rintro e w1 ⟨rfl, hb⟩)
    go_ret
    exact ⟨rfl, hb⟩
  · by_cases h2 : (20000 : Int) < (k : Int)
    · clear hs hs' hby hby' hl hm
      go_enter Try.func4, Try.ntmps4
      go_wp2_with (go_at_call 15; refine (awake_any _).mono ?_; rintro e w1 ⟨rfl, hb⟩)
      go_ret
      exact ⟨rfl, hb⟩
    · exact parts_main l m A D n c k d hl hc hmax hby hm hd hmax' hby' h1 h2 w hs hs'
end Go.Proofs.Ytnobgbndgjfiaaa
