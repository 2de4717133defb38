/- chain.Of returns the places of the chain: for every session, Seq and list of heads. -/
import Derived.Test.YtnobgbndgjfiaaaChainFind
import Derived.Test.YtnobgbndgjfiaaaAppend
namespace Go.Proofs.Ytnobgbndgjfiaaa
open Go.RowKit ChainPure

/-- Places as cells. -/
def intsV (l : List Nat) : List Value := l.map fun i : Nat => .int .i64 (i : Int)
theorem intsV_length (l : List Nat) : (intsV l).length = l.length := by simp [intsV]
theorem intsV_append (l m : List Nat) : intsV (l ++ m) = intsV l ++ intsV m := by simp [intsV]
theorem intsV_at {l : List Nat} {k : Nat} (h : k < l.length) : (intsV l)[k]? = some (.int .i64 ((l[k] : Nat) : Int)) := by simp [intsV, h]
theorem intsV_one (l : List Nat) : ∀ u ∈ intsV l, u.oneCell' = true := fun u hu => by
  obtain ⟨b, _, rfl⟩ := List.mem_map.1 hu
  rfl

theorem next_any (s q : Nat) (hq : q + 1 < 4294967296) (l : List Hd) (A : Option Addr) (n c : Nat) (hl : l.length = n) (hmax : n ≤ maxLen) (B0 B1 B2 : Nat) (w : World) (hB1 : B1 < w.heap.size) (hB2 : B2 < w.heap.size)
    (h0 : w.cell? ⟨B0, 0, none⟩ = some (.slice A n c)) (h1 : w.cell? ⟨B1, 0, none⟩ = some (.int .u32 (s : Int))) (h2 : w.cell? ⟨B2, 0, none⟩ = some (.int .u32 (q : Int))) (hs : Seen w w.heap.size A (headsV l)) :
    Calls Try.prog 41 #[.pointer (some ⟨B0, 0, none⟩), .pointer (some ⟨B1, 0, none⟩), .pointer (some ⟨B2, 0, none⟩)] w fun e w' => e = .returned (.int .i64 (idx (l.findIdx? (ishit s (q + 1))))) ∧ Below w.heap.size w w' := by
  have hf := find_any s q hq l A n c hl hmax B1 B2 w hB1 hB2 h1 h2 hs
  generalize idx (l.findIdx? (ishit s (q + 1))) = r at hf
  have HF := Lib.hid hf
  clear hf h1 h2 hs hl
  go_enter Try.func41, Try.ntmps41
  go_wp2_with fail
  refine HF.out.mono ?_
  rintro e w1 ⟨rfl, hb⟩
  go_wp2
  go_ret
  exact ⟨rfl, hb⟩

/-- A list of places is handed back in memory of the call's own. -/
def Got (w : World) (r : List Nat) (e : Ending) (w' : World) : Prop :=
  ∃ A c, e = .returned (.slice A r.length c) ∧ r.length ≤ c ∧ c ≤ maxLen ∧ Seen w' w'.heap.size A (intsV r) ∧ Below w.heap.size w w'

theorem info3 : (Try.prog.info? 3).map (fun i => (i.zero, i.size, i.bytes)) = some (some (.int .i64 0), 1, 8) := by kernel_rfl

theorem grown_below {w w' : World} (h : Below w.heap.size w w') : w.grownBy w' none := ⟨h.os, h.tape, h.output, h.size, fun k hk _ => h.block k hk⟩
theorem own_below {w w' : World} {B : Nat} {e : TypeId} {size n : Nat} {v : Value} {xs : List Value} (h : w.ownsRow B e size v n xs) (hb : Below w.heap.size w w') : w'.ownsRow B e size v n xs :=
  h.kept (grown_below hb) (by cases v.ownBlock <;> simp)
theorem got_of {w wr w2 : World} {B : Nat} {A : Option Addr} {k c : Nat} {r : List Nat} (own : wr.ownsRow B 3 1 (.slice A k c) k (intsV r)) (hk : k = r.length) (hb : Below w.heap.size w wr) (hb2 : Below wr.heap.size wr w2) :
    Got w r (.returned (.slice A k c)) w2 := by
  obtain ⟨A', c', e, h1, h2, h3⟩ := Seen.of_own own
  injection e with e1 _ e3
  subst e1; subst e3; subst hk
  exact ⟨A, c, rfl, h1, h2, (h3.below hb2).more hb2.size, hb.trans (hb2.mono hb.size)⟩

/-- What a round finds. -/
theorem chain_next {s q : Nat} {l : List Hd} {k : Nat} (hk : k ≤ (chain s q l).length) (hq : q + k < last) :
    (l.findIdx? (ishit s (q + k + 1)) = none ∧ k = (chain s q l).length) ∨ ∃ i, l.findIdx? (ishit s (q + k + 1)) = some i ∧ (chain s q l).take (k + 1) = (chain s q l).take k ++ [i] ∧ k + 1 ≤ (chain s q l).length ∧ i < l.length := by
  rcases Nat.lt_or_ge k (chain s q l).length with h | h
  · right
    refine ⟨(chain s q l)[k], ?_, List.take_succ_eq_append_getElem h, h, ?_⟩
    · have := ch_at (List.getElem?_eq_getElem h)
      rwa [show q + k + 1 = q + 1 + k by omega]
    · have := ch_at (List.getElem?_eq_getElem h)
      exact (List.findIdx?_eq_some_iff_getElem.1 this).1
  · left
    have e : k = (chain s q l).length := by omega
    refine ⟨?_, e⟩
    have := ch_end (s := s) (l := l) (f := last - q) (q := q) (by unfold chain at e; omega)
    rwa [show q + k + 1 = q + 1 + (ch s l (last - q) q).length by unfold chain at e; omega]
theorem chain_last {s q : Nat} {l : List Hd} {k : Nat} (hk : k ≤ (chain s q l).length) (hq : q + k = last) : k = (chain s q l).length := by
  have := ch_le (s := s) (l := l) (last - q) q
  unfold chain at *
  omega

theorem seq_step {t : Nat} (h : t < last) : ((t : Int) + 1) % 4294967296 = ((t + 1 : Nat) : Int) := by
  unfold last at h; omega

set_option maxHeartbeats 1000000 in
theorem chainOf_any (s q : Nat) (hq : q ≤ last) (l : List Hd) (A : Option Addr) (n c : Nat) (hl : l.length = n) (hmax : n ≤ maxLen) (w : World) (hs : Seen w w.heap.size A (headsV l)) :
    Calls Try.prog 22 #[.int .u32 (s : Int), .int .u32 (q : Int), .slice A n c] w (Got w (chain s q l)) := by
  obtain ⟨i0, hi, hz0, hz1, hz2⟩ := info_parts info3
  obtain ⟨M, hM⟩ : ∃ M, Hid (M = (chain s q l).length) := ⟨_, rfl⟩
  go_enter Try.func22, Try.ntmps22
  go_wp2
  go_loopw [7] (fun v wr => ∃ (k : Nat) (A' : Option Addr) (c' : Nat) (t : Nat), k ≤ (chain s q l).length ∧ Hid (t = q + k) ∧ t ≤ last ∧ v = .slice A' k c' ∧ Below w.heap.size w wr ∧ w.heap.size + 3 ≤ wr.heap.size ∧
      wr.heap[w.heap.size]? = some (.cells #[.int .u32 (s : Int)] 24 (0, 0)) ∧ wr.heap[w.heap.size + 1]? = some (.cells #[.int .u32 (t : Int)] 24 (0, 0)) ∧ wr.heap[w.heap.size + 2]? = some (.cells #[.slice A n c] 32 (0, 0)) ∧
      wr.ownsRow (w.heap.size + 3) 3 1 (.slice A' k c') k (intsV ((chain s q l).take k)))
    (fun v _ => match v with | .slice _ m _ => M - m | _ => 0)
  case atStart =>
    refine ⟨0, none, 0, q, Nat.zero_le _, rfl, hq, rfl, ?_, by simp, ?_, ?_, ?_, World.ownsRow_nil _ _ _ _⟩
    · exact (((Below.refl _ _).alloc (Nat.le_refl _) _).alloc (by simp) _).alloc (by simp; omega) _
    · rw [Below.heap_alloc _ _ _ (by simp; omega), Below.heap_alloc _ _ _ (by simp)]
      exact heap_alloc_new _ _
    · rw [Below.heap_alloc _ _ _ (by simp)]
      simpa using heap_alloc_new (w.alloc (.cells #[.int .u32 (s : Int)] 24)) (.cells #[.int .u32 (q : Int)] 24)
    · simpa using heap_alloc_new ((w.alloc (.cells #[.int .u32 (s : Int)] 24)).alloc (.cells #[.int .u32 (q : Int)] 24)) (.cells #[.slice A n c] 32)
  case round =>
    obtain ⟨k, A', c', t, hk, ht, htl, rfl, hb, hsz, g0, g1, g2, own⟩ := hrel
    have c0 := cell_of_one g0
    have c1 := cell_of_one g1
    have c2 := cell_of_one g2
    have f1 := free_of_one g1
    by_cases hlt : t < last
    · have hne : ((t : Int) != 4294967295) = true := by
        unfold last at hlt
        simp; omega
      have hx := next_any s t (by unfold last at hlt; omega) l A n c hl hmax (w.heap.size + 1 + 1) w.heap.size (w.heap.size + 1) wr (by omega) (by omega) c2 c0 c1 ((hs.below hb).more hb.size)
      have HX := Lib.hid hx
      clear hx
      have hn := chain_next hk (by rw [← ht.out]; exact hlt)
      rw [← ht.out] at hn
      rcases hn with ⟨hn, hkk⟩ | ⟨i, hn, htake, hk1, hil⟩
      · rw [hn, show idx none = -1 from rfl] at HX
        rw [List.take_of_length_le (by omega)] at own
        have HK := Lib.hid hkk
        clear hkk hn
        go_wp2_with fail
        refine HX.out.mono ?_
        rintro e w2 ⟨rfl, hb2⟩
        clear HX
        go_wp2
        go_ret
        exact got_of own HK.out hb hb2
      · rw [hn, show idx (some i) = (i : Int) from rfl] at HX
        have HT := Lib.hid htake
        have hi0 : (0 : Int) ≤ (i : Int) := by omega
        have hkb : k + 1 ≤ 4294967296 := by
          have h1 := ch_le (s := s) (l := l) (last - q) q
          unfold chain at hk1
          unfold last at h1 hk1
          omega
        have HKB := Lib.hid hkb
        have HK1 := Lib.hid hk1
        have HIL := Lib.hid hil
        clear htake hn hs hl hkb hk1 hil
        go_wp2_with fail
        refine HX.out.mono ?_
        rintro e w2 ⟨rfl, hb2⟩
        clear HX
        have own2 := own_below own hb2
        have hz2' : w.heap.size + 3 ≤ w2.heap.size := Nat.le_trans hsz hb2.size
        replace g0 := (hb2.block _ (by omega)).trans g0
        replace g1 := (hb2.block _ (by omega)).trans g1
        replace g2 := (hb2.block _ (by omega)).trans g2
        replace hb := hb.trans (hb2.mono hb.size)
        clear c0 c1 c2 f1 own hb2 hsz
        go_wp2_with (at_builtin; refine wpList_append_seen _ rfl (.tmp 17) (.tmp 19) _ rfl (w.heap.size + 3) 3 i0 _ 1 8 Try.underlying34 hi hz0 hz1 hz2 rfl (by omega) _ k (intsV ((chain s q l).take k)) rfl (own2.alloc _) (w2.heap.size + 1) (some ⟨w2.heap.size, 0, none⟩) 1 1 (intsV [i]) rfl rfl ?m2 (intsV_one [i]) ?m4 ?m5 ?m6 ?_; (case m2 => intro j u hj; refine ⟨_, rfl, by simp, ?_⟩; rw [Addr.add_lit, Nat.zero_add, cell_of_row _ _ _ _ _ _ (heap_alloc_new _ _), ← hj]; simp [intsV]); (case m4 => have := HKB.out; unfold maxLen; omega); (case m5 => have := HKB.out; omega); (case m6 => simp; omega); intro A3 c3 w3 own3 hb3 hc3 hm3 hs3; clear hs3 own2; have g13 := ((hb3.block (w.heap.size + 1) (by omega)).trans (Below.heap_alloc _ _ _ (by omega))).trans g1; have c13 := cell_of_one g13; have f13 := free_of_one g13; clear hne)
        have hw : ((t : Int) + 1) % 4294967296 = ((t + 1 : Nat) : Int) := seq_step hlt
        rw [hw]
        have hbb : Below w.heap.size w w3 := hb.trans (((Below.refl _ _).alloc (Nat.le_refl _) _).mono hb.size |>.trans (hb3.mono (by omega)))
        go_roundw
        case rel =>
          refine ⟨k + 1, A3, c3, t + 1, HK1.out, ?_, hlt, rfl, hbb.setCell (by simp) _, ?_, ?_, ?_, ?_, ?_⟩
          · have := ht.out
            show t + 1 = q + (k + 1)
            omega
          · have := hb3.size
            simp at this
            simp
            omega
          · rw [Below.heap_setCell _ _ _ _ (by simp)]
            exact ((hb3.block _ (by omega)).trans (Below.heap_alloc _ _ _ (by omega))).trans g0
          · exact one_setCell g13
          · rw [Below.heap_setCell _ _ _ _ (by simp)]
            exact ((hb3.block _ (by omega)).trans (Below.heap_alloc _ _ _ (by omega))).trans g2
          · rw [HT.out, intsV_append]
            exact ownsRow_setCell_below own3 (by simp) _
        case measure =>
          have := HK1.out
          have := hM.out
          show M - (k + 1) < M - k
          omega
    · have he : t = last := by omega
      have HE := Lib.hid (chain_last hk (by rw [← ht.out]; exact he))
      have hne : ((t : Int) != 4294967295) = false := by
        rw [he]; rfl
      rw [List.take_of_length_le (by rw [← HE.out]; omega)] at own
      clear he hs hl
      go_wp2
      go_ret
      exact got_of own HE.out hb (Below.refl _ _)
end Go.Proofs.Ytnobgbndgjfiaaa
