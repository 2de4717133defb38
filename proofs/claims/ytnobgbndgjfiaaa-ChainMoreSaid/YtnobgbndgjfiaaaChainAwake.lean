/- The law's own function awake of chapter 14 returns true. -/
import Derived.Test.YtnobgbndgjfiaaaChainHeads
namespace Go.Proofs.Ytnobgbndgjfiaaa
open Go.RowKit ChainPure

def four : List Hd := [⟨1, 1, 0, 7⟩, ⟨1, 1, 0, 6⟩, ⟨1, 1, 0, 9⟩, ⟨1, 1, 0, 5⟩]
theorem four_at : ∀ k, (h : k < four.length) → four[k].kind = 1 ∧ four[k].session = 1 ∧ four[k].id = 0 := by decide
theorem four_chain : chain 1 4 four = [3, 1, 0] :=
  (ch_unique (by unfold last; decide) (fun k i h => by
    match k, h with
    | 0, h => simp at h; subst h; rfl
    | 1, h => simp at h; subst h; rfl
    | 2, h => simp at h; subst h; rfl) (fun _ => rfl)).symm
theorem four_other : chain 2 4 four = [] := ch_none rfl
theorem four_last : chain 1 last four = [] := rfl

theorem info42 : (Try.prog.info? 42).map (fun i => (i.zero, i.size, i.bytes)) = some (some (.agg #[.int .u8 0, .int .u32 0, .int .u32 0, .int .u32 0]), 4, 16) := by kernel_rfl

theorem four_cell : ∀ (k : Nat) (h : k < four.length), #[Value.int .u32 7, Value.int .u32 6, Value.int .u32 9, Value.int .u32 5][k]? = some (.int .u32 ((four[k].seq : Nat) : Int))
  | 0, _ => rfl
  | 1, _ => rfl
  | 2, _ => rfl
  | 3, _ => rfl
  | k + 4, h => absurd h (by simp [four])

/-- A slice that reads as the four heads. -/
def Four (A : Option Addr) (w1 w : World) : Prop := Below w1.heap.size w1 w ∧ Seen w1 w1.heap.size A (headsV four)

theorem of_four (A : Option Addr) (c : Nat) (w1 W : World) (h : Four A w1 W) : Calls Try.prog 22 #[.int .u32 1, .int .u32 4, .slice A 4 c] W fun e w' => ∃ A' c', e = .returned (.slice A' 3 c') ∧ 3 ≤ c' ∧ c' ≤ maxLen ∧ Seen w' w'.heap.size A' (intsV [3, 1, 0]) ∧ Four A w1 w' := by
  have := chainOf_any 1 4 (by unfold last; decide) four A 4 c rfl (by decide) W ((h.2.below h.1).more h.1.size)
  rw [four_chain] at this
  exact this.mono fun e w' ⟨A', c', he, h1, h2, h3, hb⟩ => ⟨A', c', he, h1, h2, h3, h.1.trans (hb.mono h.1.size), h.2⟩
theorem of_other (A : Option Addr) (c : Nat) (w1 W : World) (h : Four A w1 W) : Calls Try.prog 22 #[.int .u32 2, .int .u32 4, .slice A 4 c] W fun e w' => ∃ A' c', e = .returned (.slice A' 0 c') ∧ Four A w1 w' := by
  have := chainOf_any 2 4 (by unfold last; decide) four A 4 c rfl (by decide) W ((h.2.below h.1).more h.1.size)
  rw [four_other] at this
  exact this.mono fun e w' ⟨A', c', he, _, _, _, hb⟩ => ⟨A', c', he, h.1.trans (hb.mono h.1.size), h.2⟩
theorem of_last (A : Option Addr) (c : Nat) (w1 W : World) (h : Four A w1 W) : Calls Try.prog 22 #[.int .u32 1, .int .u32 4294967295, .slice A 4 c] W fun e w' => ∃ A' c', e = .returned (.slice A' 0 c') ∧ Four A w1 w' := by
  have := chainOf_any 1 last (Nat.le_refl _) four A 4 c rfl (by decide) W ((h.2.below h.1).more h.1.size)
  rw [four_last, show ((last : Nat) : Int) = 4294967295 from rfl] at this
  exact this.mono fun e w' ⟨A', c', he, _, _, _, hb⟩ => ⟨A', c', he, h.1.trans (hb.mono h.1.size), h.2⟩

theorem seen_new (w : World) (xs : List Value) (e : TypeId) : Seen (w.alloc (.cells xs.toArray e)) (w.heap.size + 1) (some ⟨w.heap.size, 0, none⟩) xs := fun j u hj =>
  ⟨_, rfl, by simp, by rw [Addr.add_lit, Nat.zero_add, cell_of_row _ _ _ _ _ _ (heap_alloc_new _ _), ← hj]; simp⟩

set_option maxHeartbeats 1000000 in
theorem chainAwake_any (w : World) : Calls Try.prog 20 #[] w fun e w' => e = .returned (.bool true) ∧ Below w.heap.size w w' := by
  obtain ⟨i0, hi, hz0, hz1, hz2⟩ := info_parts info42
  go_enter Try.func20, Try.ntmps20
  go_wp2
  go_loopw [1, 6] (fun v i wr => ∃ (k : Nat) (A' : Option Addr) (c' : Nat), k ≤ 4 ∧ v = .slice A' k c' ∧ i = .int .i64 k ∧ Below w.heap.size w wr ∧ w.heap.size + 1 ≤ wr.heap.size ∧
      wr.heap[w.heap.size]? = some (.cells #[.int .u32 7, .int .u32 6, .int .u32 9, .int .u32 5] 24 (0, 0)) ∧ wr.ownsRow (w.heap.size + 1) 42 4 (.slice A' k c') k (headsV (four.take k)))
    (fun _ i _ => 4 - (intOf i).toNat)
  case atStart => exact ⟨0, none, 0, Nat.zero_le _, rfl, rfl, (Below.refl _ _).alloc (Nat.le_refl _) _, by simp, heap_alloc_new _ _, World.ownsRow_nil _ _ _ _⟩
  case round =>
    obtain ⟨k, A', c', hk4, rfl, rfl, hb, hsz, hblk, own⟩ := hrel
    by_cases hlt : k < 4
    · have hkl : k < four.length := hlt
      have hki : (k : Int) < 4 := by omega
      have hk0 : (0 : Int) ≤ (k : Int) := by omega
      have hcell : wr.cell? ⟨w.heap.size, k, none⟩ = some (.int .u32 ((four[k].seq : Nat) : Int)) := (cell_of_row _ _ _ _ _ _ hblk).trans (four_cell k hkl)
      have HT : Hid (headsV (four.take (k + 1)) = headsV (four.take k) ++ [.int .u8 1, .int .u32 1, .int .u32 0, .int .u32 ((four[k].seq : Nat) : Int)]) := by
        show headsV (four.take (k + 1)) = headsV (four.take k) ++ [.int .u8 1, .int .u32 1, .int .u32 0, .int .u32 ((four[k].seq : Nat) : Int)]
        obtain ⟨h1, h2, h3⟩ := four_at k hkl
        rw [List.take_succ_eq_append_getElem hkl, headsV_append]
        simp [headsV, hd, h1, h2, h3]
      generalize four[k].seq = x at hcell HT
      go_wp2_with (at_builtin; refine wpList_append_seen _ rfl (.tmp 10) (.tmp 13) _ rfl (w.heap.size + 1) 42 i0 _ 4 16 Try.underlying32 hi hz0 hz1 hz2 rfl (by omega) _ k (headsV (four.take k)) rfl (own.alloc _) (wr.heap.size + 1) (some ⟨wr.heap.size, 0, none⟩) 1 1 [.int .u8 1, .int .u32 1, .int .u32 0, .int .u32 (x : Int)] rfl rfl ?m2 (by intro u hu; simp only [List.mem_cons, List.not_mem_nil, or_false] at hu; rcases hu with rfl | rfl | rfl | rfl <;> rfl) ?m4 ?m5 ?m6 ?_; (case m2 => exact seen_new wr _ 42); (case m4 => unfold maxLen; omega); (case m5 => omega); (case m6 => simp; omega); intro A3 c3 w3 own3 hb3 hc3 hm3 hs3; clear hs3 own)
      have hb' : Below (w.heap.size + 1) wr w3 := ((Below.refl _ _).alloc hsz _).trans hb3
      go_roundw
      case rel => exact ⟨k + 1, A3, c3, by omega, rfl, by go_num, hb.trans (hb'.mono (by omega)), Nat.le_trans hsz hb'.size, (hb'.block _ (by omega)).trans hblk, by rw [HT.out]; exact own3⟩
      case measure => simp [intOf]; omega
    · obtain rfl : k = 4 := by omega
      have hF : ∃ h1 : Unit, Four A' wr wr := by
        obtain ⟨A2, c2, e, _, _, h3⟩ := Seen.of_own own
        injection e with e1 _ e3
        subst e1
        exact ⟨(), Below.refl _ _, h3⟩
      obtain ⟨_, hF⟩ := hF
      clear own hblk hlt
      go_wp2_with fail
      refine (of_four A' c' wr _ hF).mono ?_
      rintro e w1 ⟨A1, c1, rfl, hc1, hm1, hs1, h1⟩
      go_wp2_with fail
      refine (same_any [3, 1, 0] [3, 1, 0] A1 _ 3 c1 3 3 rfl rfl (by decide) _ ((hs1.below ((Below.refl _ _).alloc (Nat.le_refl _) _)).more (by simp)) ((seen_new w1 (intsV [3, 1, 0]) 3).more (by simp))).mono ?_
      rintro e w2 ⟨rfl, hb2⟩
      have h2 : Four A' wr w2 := ⟨h1.1.trans ((((Below.refl _ _).alloc (Nat.le_refl _) _).trans (hb2.mono (by simp))).mono h1.1.size), h1.2⟩
      rw [show (([3, 1, 0] : List Nat) == [3, 1, 0]) = true from rfl]
      clear hs1 hb2 h1 hF
      go_wp2_with fail
      refine (of_other A' c' wr _ h2).mono ?_
      rintro e w3 ⟨A3, c3, rfl, h3⟩
      go_wp2_with fail
      refine (of_last A' c' wr _ h3).mono ?_
      rintro e w4 ⟨A4, c4, rfl, h4⟩
      go_wp2
      go_ret
      exact ⟨rfl, hb.trans (h4.1.mono hb.size)⟩
end Go.Proofs.Ytnobgbndgjfiaaa
