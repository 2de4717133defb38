/- The reference's Of returns the places of the chain: for every session, Seq and list of heads. -/
import Derived.Test.YtnobgbndgjfiaaaChainRef
namespace Go.Proofs.Ytnobgbndgjfiaaa
open Go.RowKit ChainPure

/-- A new row of no cells is owned. -/
theorem own_empty' (W : World) (B : Nat) (e : TypeId) (size : Nat) (hB : B ≤ W.heap.size) : (W.alloc (.cells #[] e)).ownsRow B e size (.slice (some ⟨W.heap.size, 0, none⟩) 0 0) 0 [] :=
  World.ownsRow_made W #[] 0 hB (by decide) (by simp)

theorem chain_length_le {s q : Nat} {l : List Hd} : (chain s q l).length ≤ l.length := ch_length _ _

set_option maxHeartbeats 1000000 in
theorem refOf_any (s q : Nat) (hq : q ≤ last) (l : List Hd) (A : Option Addr) (n c : Nat) (hl : Hid (l.length = n)) (hmax : n ≤ 1000000) (w : World) (hs : Seen w w.heap.size A (headsV l)) :
    Calls Try.prog 23 #[.int .u32 (s : Int), .int .u32 (q : Int), .slice A n c] w (Got w (chain s q l)) := by
  obtain ⟨i0, hi, hz0, hz1, hz2⟩ := info_parts info3
  go_enter Try.func23, Try.ntmps23
  go_wp2
  go_loopw [1, 7, 8] (fun u v i wr => ∃ (k : Nat) (A' : Option Addr) (c' : Nat) (t : Nat), k ≤ n ∧ Hid (k ≤ (chain s q l).length) ∧ Hid (t = q + k) ∧ t ≤ last ∧ u = .int .u32 (t : Int) ∧ v = .slice A' k c' ∧ i = .int .i64 k ∧ Below w.heap.size w wr ∧
      wr.ownsRow w.heap.size 3 1 (.slice A' k c') k (intsV ((chain s q l).take k)))
    (fun _ _ i _ => n - (intOf i).toNat)
  case atStart => exact ⟨0, _, 0, q, Nat.zero_le _, Nat.zero_le _, rfl, hq, rfl, rfl, rfl, (Below.refl _ _).alloc (Nat.le_refl _) _, own_empty' w _ 3 1 (Nat.le_refl _)⟩
  case round =>
    obtain ⟨k, A', c', t, hkn, hk, ht, htl, rfl, rfl, rfl, hb, own⟩ := hrel
    by_cases hlt : k < n
    · have hlt' : (k : Int) < (n : Int) := by omega
      by_cases htt : t < last
      · have hne : ((t : Int) == 4294967295) = false := by
          unfold last at htt
          simp; omega
        have hn := chain_next hk.out (by rw [← ht.out]; exact htt)
        rw [← ht.out] at hn
        have hx := reffind_any s (t + 1) l A n c hl (by unfold maxLen; omega) wr ((hs.below hb).more hb.size)
        rw [← seq_step htt] at hx
        rcases hn with ⟨hn, hkk⟩ | ⟨i, hn, htake, hk1, hil⟩
        · rw [hn, show idx none = -1 from rfl] at hx
          have HX := Lib.hid hx
          rw [List.take_of_length_le (by omega)] at own
          have HK := Lib.hid hkk
          clear hkk hn hs hx
          go_wp2_with fail
          refine HX.out.mono ?_
          rintro e w2 ⟨rfl, rfl⟩
          clear HX
          go_wp2
          go_ret
          exact got_of own HK.out hb (Below.refl _ _)
        · rw [hn, show idx (some i) = (i : Int) from rfl] at hx
          have HX := Lib.hid hx
          have HT := Lib.hid htake
          have HK1 := Lib.hid hk1
          have hi0 : (0 : Int) ≤ (i : Int) := by omega
          clear htake hn hs hx hk1 hil
          go_wp2_with fail
          refine HX.out.mono ?_
          rintro e w2 ⟨rfl, rfl⟩
          clear HX
          go_wp2_with (at_builtin; refine wpList_append_seen _ rfl (.tmp 28) (.tmp 30) _ rfl w.heap.size 3 i0 _ 1 8 Try.underlying34 hi hz0 hz1 hz2 rfl (by omega) _ k (intsV ((chain s q l).take k)) rfl (own.alloc _) (wr.heap.size + 1) (some ⟨wr.heap.size, 0, none⟩) 1 1 (intsV [i]) rfl rfl ?m2 (intsV_one [i]) ?m4 ?m5 ?m6 ?_; (case m2 => intro j u hj; refine ⟨_, rfl, by simp, ?_⟩; rw [Addr.add_lit, Nat.zero_add, cell_of_row _ _ _ _ _ _ (heap_alloc_new _ _), ← hj]; simp [intsV]); (case m4 => unfold maxLen; omega); (case m5 => omega); (case m6 => exact Nat.le_trans hb.size (by simp)); intro A3 c3 w3 own3 hb3 hc3 hm3 hs3; clear hs3 own hne)
          have hw : ((t : Int) + 1) % 4294967296 = ((t + 1 : Nat) : Int) := seq_step htt
          rw [hw]
          have hbb : Below w.heap.size w w3 := (hb.alloc hb.size _).trans hb3
          go_roundw
          case rel =>
            refine ⟨k + 1, A3, c3, t + 1, by omega, HK1.out, ?_, htt, rfl, rfl, by go_num, hbb, ?_⟩
            · have := ht.out
              show t + 1 = q + (k + 1)
              omega
            · rw [HT.out, intsV_append]
              exact own3
          case measure => simp [intOf]; omega
      · have he : t = last := by omega
        have HE := Lib.hid (chain_last hk.out (by rw [← ht.out]; exact he))
        have hne : ((t : Int) == 4294967295) = true := by
          rw [he]; rfl
        rw [List.take_of_length_le (by rw [← HE.out]; omega)] at own
        clear he hs
        go_wp2
        go_ret
        exact got_of own HE.out hb (Below.refl _ _)
    · have HE : Hid (k = (chain s q l).length) := by
        have h1 := hk.out
        have h2 := chain_length_le (s := s) (q := q) (l := l)
        have h3 := hl.out
        show k = _
        omega
      rw [List.take_of_length_le (by rw [← HE.out]; omega)] at own
      clear hs
      go_wp2
      go_ret
      exact got_of own HE.out hb (Below.refl _ _)
end Go.Proofs.Ytnobgbndgjfiaaa
