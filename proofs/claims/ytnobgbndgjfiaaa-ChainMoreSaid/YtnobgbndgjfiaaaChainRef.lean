/- The reference's find and Of return the first place of a hit, and the places of the chain: for every session, Seq and list of heads. -/
import Derived.Test.YtnobgbndgjfiaaaChainSame
namespace Go.Proofs.Ytnobgbndgjfiaaa
open Go.RowKit ChainPure

theorem hit_parts (s q : Nat) (h : Hd) (b1 b2 b3 b4 : Bool) (e1 : ((h.kind : Int) == 1) = b1) (e2 : ((h.kind : Int) == 2) = b2) (e3 : ((h.session : Int) == (s : Int)) = b3) (e4 : ((h.seq : Int) == (q : Int)) = b4) :
    ishit s q h = ((b1 || b2) && b3 && b4) := by
  rw [← e1, ← e2, ← e3, ← e4, beq_cast, beq_cast, show (1 : Int) = ((1 : Nat) : Int) from rfl, show (2 : Int) = ((2 : Nat) : Int) from rfl, beq_cast, beq_cast]
  rfl

theorem idx_hit {p : Hd → Bool} {l : List Hd} {k : Nat} (hkl : k < l.length) (hx : p l[k] = true) (hno : ∀ x ∈ l.take k, p x = false) : l.findIdx? p = some k := by
  rw [List.findIdx?_eq_some_iff_getElem]
  refine ⟨hkl, hx, fun j hj => ?_⟩
  rw [hno l[j] (List.mem_take_iff_getElem.2 ⟨j, by omega, rfl⟩)]
  simp
theorem no_more {p : Hd → Bool} {l : List Hd} {k : Nat} (hkl : k < l.length) (hx : p l[k] = false) (hno : ∀ x ∈ l.take k, p x = false) : ∀ x ∈ l.take (k + 1), p x = false := by
  intro y hy
  rw [List.take_succ_eq_append_getElem hkl, List.mem_append] at hy
  rcases hy with hy | hy
  · exact hno y hy
  · rw [List.mem_singleton.1 hy]; exact hx

set_option maxHeartbeats 2000000 in
theorem reffind_any (s q : Nat) (l : List Hd) (A : Option Addr) (n c : Nat) (hl : Hid (l.length = n)) (hmax : n ≤ maxLen) (w : World) (hs : Seen w w.heap.size A (headsV l)) :
    Calls Try.prog 45 #[.int .u32 (s : Int), .int .u32 (q : Int), .slice A n c] w fun e w' => e = .returned (.int .i64 (idx (l.findIdx? (ishit s q)))) ∧ w = w' := by
  unfold maxLen at hmax
  go_enter Try.func45, Try.ntmps45
  go_wp2
  go_loop [7] (fun i => ∃ k : Nat, k ≤ n ∧ i = .int .i64 k ∧ Hid (∀ x ∈ l.take k, ishit s q x = false)) (fun i => n - (intOf i).toNat)
  case atStart => exact ⟨0, Nat.zero_le _, rfl, by simp [Hid]⟩
  case round =>
    obtain ⟨k, hk, rfl, hno⟩ := hrel
    by_cases hlt : k < n
    · have hkl : k < l.length := by rw [hl.out]; exact hlt
      have hkn : (k : Int) < (n : Int) := by omega
      obtain ⟨b, off, rfl, hbl, d0, d1, d2, d3⟩ := hs.head hkl
      generalize hx : l[k] = x at d0 d1 d2 d3
      have HX := Lib.hid hx
      clear hx hs d2
      generalize e1 : ((x.kind : Int) == 1) = b1
      generalize e2 : ((x.kind : Int) == 2) = b2
      generalize e3 : ((x.session : Int) == (s : Int)) = b3
      generalize e4 : ((x.seq : Int) == (q : Int)) = b4
      have HP := Lib.hid (hit_parts s q x b1 b2 b3 b4 e1 e2 e3 e4)
      cases b1 <;> cases b2 <;> cases b3 <;> cases b4
      all_goals
        first
        | (have HI := Lib.hid (idx_hit (p := ishit s q) hkl (by rw [HX.out]; exact HP.out) hno.out)
           clear HP
           go_wp2
           go_ret
           exact ⟨by rw [HI.out]; rfl, rfl⟩)
        | (have HN := Lib.hid (no_more (p := ishit s q) hkl (by rw [HX.out]; exact HP.out) hno.out)
           clear HP
           go_wp2
           go_round
           case rel => exact ⟨k + 1, by omega, by go_num, HN.out⟩
           case measure => simp [intOf]; omega)
    · have hno' := hno.out
      rw [List.take_of_length_le (by rw [hl.out]; omega)] at hno'
      have HF := Lib.hid (List.findIdx?_eq_none_iff.2 hno')
      clear hno' hs
      go_wp2
      go_ret
      exact ⟨by rw [HF.out]; rfl, rfl⟩
end Go.Proofs.Ytnobgbndgjfiaaa
