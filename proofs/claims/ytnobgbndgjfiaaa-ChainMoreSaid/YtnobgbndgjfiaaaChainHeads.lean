/- The law's own function heads hands back the same heads in memory of its own: for every list of heads. -/
import Derived.Test.YtnobgbndgjfiaaaChainRefOf
namespace Go.Proofs.Ytnobgbndgjfiaaa
open Go.RowKit ChainPure

theorem info72 : (Try.prog.info? 72).map (fun i => (i.zero, i.size, i.bytes)) = some (some (.agg #[.int .u8 0, .int .u32 0, .int .u32 0, .int .u32 0]), 4, 16) := by kernel_rfl
theorem hd_one (h : Hd) : ∀ u ∈ hd h, u.oneCell' = true := fun u hu => by
  simp only [hd, List.mem_cons, List.not_mem_nil, or_false] at hu
  rcases hu with rfl | rfl | rfl | rfl <;> rfl

/-- Heads are handed back in memory of the call's own. -/
def GotHeads (w : World) (l : List Hd) (e : Ending) (w' : World) : Prop :=
  ∃ A c, e = .returned (.slice A l.length c) ∧ l.length ≤ c ∧ c ≤ maxLen ∧ Seen w' w'.heap.size A (headsV l) ∧ Below w.heap.size w w'

theorem hd_cell (w : World) (x : Hd) (j : Nat) (u : Value) (h : (hd x)[j]? = some u) :
    ((w.alloc (.cells #[.int .u8 (x.kind : Int), .int .u32 (x.session : Int), .int .u32 (x.id : Int), .int .u32 (x.seq : Int)] 42)).alloc (.cells #[.int .u8 (x.kind : Int), .int .u32 (x.session : Int), .int .u32 (x.id : Int), .int .u32 (x.seq : Int)] 72)).cell? ⟨w.heap.size + 1, j, none⟩ = some u := by
  have hn := heap_alloc_new (w.alloc (.cells #[.int .u8 (x.kind : Int), .int .u32 (x.session : Int), .int .u32 (x.id : Int), .int .u32 (x.seq : Int)] 42)) (.cells #[.int .u8 (x.kind : Int), .int .u32 (x.session : Int), .int .u32 (x.id : Int), .int .u32 (x.seq : Int)] 72)
  rw [show (w.alloc (.cells #[.int .u8 (x.kind : Int), .int .u32 (x.session : Int), .int .u32 (x.id : Int), .int .u32 (x.seq : Int)] 42)).heap.size = w.heap.size + 1 from by simp] at hn
  rw [cell_of_row _ _ _ _ _ _ hn, ← h]
  simp [hd]

set_option maxHeartbeats 1000000 in
theorem heads_any (l : List Hd) (A : Option Addr) (n c : Nat) (hl : Hid (l.length = n)) (hmax : n ≤ 1000000) (w : World) (hs : Seen w w.heap.size A (headsV l)) :
    Calls Try.prog 24 #[.slice A n c] w (GotHeads w l) := by
  obtain ⟨i0, hi, hz0, hz1, hz2⟩ := info_parts info72
  go_enter Try.func24, Try.ntmps24
  go_wp2
  go_loopw [3, 9] (fun v i wr => ∃ (k : Nat) (A' : Option Addr) (c' : Nat), k ≤ n ∧ v = .slice A' k c' ∧ i = .int .i64 k ∧ Below w.heap.size w wr ∧ wr.ownsRow w.heap.size 72 4 (.slice A' k c') k (headsV (l.take k)))
    (fun _ i _ => n - (intOf i).toNat)
  case atStart => exact ⟨0, _, 0, Nat.zero_le _, rfl, rfl, (Below.refl _ _).alloc (Nat.le_refl _) _, own_empty' w _ 72 4 (Nat.le_refl _)⟩
  case round =>
    obtain ⟨k, A', c', hkn, rfl, rfl, hb, own⟩ := hrel
    by_cases hlt : k < n
    · have hkl : k < l.length := by rw [hl.out]; exact hlt
      have hkn' : (k : Int) < (n : Int) := by omega
      obtain ⟨b, off, rfl, hbl, d0, d1, d2, d3⟩ := (hs.below hb).head hkl
      have HT : Hid (headsV (l.take (k + 1)) = headsV (l.take k) ++ hd l[k]) := by
        show headsV (l.take (k + 1)) = headsV (l.take k) ++ hd l[k]
        rw [List.take_succ_eq_append_getElem hkl, headsV_append]
        simp [headsV]
      generalize hx : l[k] = x at d0 d1 d2 d3 HT
      clear hx
      go_wp2_with (at_builtin; refine wpList_append_seen _ rfl (.tmp 13) (.tmp 15) _ rfl w.heap.size 72 i0 _ 4 16 Try.underlying37 hi hz0 hz1 hz2 rfl (by omega) _ k (headsV (l.take k)) rfl ((own.alloc _).alloc _) (wr.heap.size + 2) (some ⟨wr.heap.size + 1, 0, none⟩) 1 1 (hd x) rfl rfl ?m2 (hd_one x) ?m4 ?m5 ?m6 ?_; (case m2 => intro j u hj; refine ⟨_, rfl, by simp, ?_⟩; rw [Addr.add_lit, Nat.zero_add]; exact hd_cell wr x j u hj); (case m4 => unfold maxLen; omega); (case m5 => omega); (case m6 => exact Nat.le_trans hb.size (by simp; omega)); intro A3 c3 w3 own3 hb3 hc3 hm3 hs3; clear hs3 own)
      have hbb : Below w.heap.size w w3 := ((hb.alloc hb.size _).alloc (Nat.le_trans hb.size (by simp)) _).trans hb3
      go_roundw
      case rel => exact ⟨k + 1, A3, c3, by omega, rfl, by go_num, hbb, by rw [HT.out]; exact own3⟩
      case measure => simp [intOf]; omega
    · have hkn' : Hid (k = l.length) := by
        have := hl.out
        show k = l.length
        omega
      rw [List.take_of_length_le (by rw [← hkn'.out]; omega)] at own
      clear hs
      go_wp2
      go_ret
      obtain ⟨A2, c2, e, h1, h2, h3⟩ := Seen.of_own own
      injection e with e1 _ e3
      subst e1; subst e3
      rw [hkn'.out] at h1 ⊢
      exact ⟨A', c', rfl, h1, h2, h3, hb⟩
end Go.Proofs.Ytnobgbndgjfiaaa
