/- slices.IndexFunc over heads, with the closure that seeks a link: it returns the first place of a hit, or -1: for every list of heads. -/
import Derived.Test.YtnobgbndgjfiaaaChainLink
namespace Go.Proofs.Ytnobgbndgjfiaaa
open Go.RowKit ChainPure

/-- Heads as cells. -/
def headsV (l : List Hd) : List Value := l.flatMap hd
theorem headsV_length (l : List Hd) : (headsV l).length = l.length * 4 := by
  induction l with
  | nil => rfl
  | cons h l ih => simp only [headsV, List.flatMap_cons, List.length_append, List.length_cons] at ih ⊢; rw [ih]; simp [hd]; omega
theorem headsV_append (l m : List Hd) : headsV (l ++ m) = headsV l ++ headsV m := by simp [headsV]
theorem headsV_at : ∀ (l : List Hd) (k j : Nat) (_ : j < 4) (h : k < l.length), (headsV l)[k * 4 + j]? = (hd l[k])[j]?
  | [], _, _, _, h => by simp at h
  | x :: l, 0, j, hj, _ => by
    simp only [headsV, List.flatMap_cons, Nat.zero_mul, Nat.zero_add, List.getElem_cons_zero]
    rw [List.getElem?_append_left (by simpa [hd] using hj)]
  | x :: l, k + 1, j, hj, h => by
    have := headsV_at l k j hj (by simpa using h)
    simp only [headsV, List.flatMap_cons, List.getElem_cons_succ] at this ⊢
    rw [List.getElem?_append_right (by simp [hd]; omega), ← this]
    congr 1
    simp [hd]; omega

/-- Head k of a slice that is seen. -/
theorem Seen.head {w : World} {B : Nat} {A : Option Addr} {l : List Hd} (h : Seen w B A (headsV l)) {k : Nat} (hk : k < l.length) :
    ∃ b off, A = some ⟨b, off, none⟩ ∧ b < B ∧ w.cell? ⟨b, off + k * 4, none⟩ = some (.int .u8 (l[k].kind : Int)) ∧ w.cell? ⟨b, off + k * 4 + 1, none⟩ = some (.int .u32 (l[k].session : Int)) ∧
      w.cell? ⟨b, off + k * 4 + 2, none⟩ = some (.int .u32 (l[k].id : Int)) ∧ w.cell? ⟨b, off + k * 4 + 3, none⟩ = some (.int .u32 (l[k].seq : Int)) := by
  have h0 := headsV_at l 0 0 (by omega) (by omega)
  obtain ⟨⟨b, off, spot⟩, rfl, hb, hc⟩ := h 0 (.int .u8 (l[0].kind : Int)) h0
  rw [Addr.add_zero'] at hc
  have : spot = none := by simpa using World.cell?_spot hc
  subst this
  refine ⟨b, off, rfl, hb, ?_, ?_, ?_, ?_⟩
  all_goals
    first
    | (obtain ⟨ad, e, _, hc⟩ := h (k * 4 + 0) _ (headsV_at l k 0 (by omega) hk); injection e with e; subst e; rwa [Addr.add_lit] at hc)
    | (obtain ⟨ad, e, _, hc⟩ := h (k * 4 + 1) _ (headsV_at l k 1 (by omega) hk); injection e with e; subst e; rwa [Addr.add_lit] at hc)
    | (obtain ⟨ad, e, _, hc⟩ := h (k * 4 + 2) _ (headsV_at l k 2 (by omega) hk); injection e with e; subst e; rwa [Addr.add_lit] at hc)
    | (obtain ⟨ad, e, _, hc⟩ := h (k * 4 + 3) _ (headsV_at l k 3 (by omega) hk); injection e with e; subst e; rwa [Addr.add_lit] at hc)

def idx : Option Nat → Int
  | none => -1
  | some i => i

theorem find_any (s q : Nat) (hq : q + 1 < 4294967296) (l : List Hd) (A : Option Addr) (n c : Nat) (hl : l.length = n) (hmax : n ≤ maxLen) (B1 B2 : Nat) (w : World) (hB1 : B1 < w.heap.size) (hB2 : B2 < w.heap.size)
    (h1 : w.cell? ⟨B1, 0, none⟩ = some (.int .u32 (s : Int))) (h2 : w.cell? ⟨B2, 0, none⟩ = some (.int .u32 (q : Int))) (hs : Seen w w.heap.size A (headsV l)) :
    Calls Try.prog 42 #[.slice A n c, .func (.func 43) #[] #[.pointer (some ⟨B1, 0, none⟩), .pointer (some ⟨B2, 0, none⟩)]] w fun e w' => e = .returned (.int .i64 (idx (l.findIdx? (ishit s (q + 1))))) ∧ Below w.heap.size w w' := by
  unfold maxLen at hmax
  have hit := fun h W a b c d => hit_any s q hq h B1 B2 W a b c d
  have HIT := Lib.hid hit
  clear hit
  go_enter Try.func42, Try.ntmps42
  go_wp2
  go_loopw [8] (fun i wr => ∃ k : Nat, k ≤ n ∧ i = .int .i64 k ∧ Below w.heap.size w wr ∧ Hid (∀ x ∈ l.take k, ishit s (q + 1) x = false)) (fun i _ => n - (intOf i).toNat)
  case atStart => exact ⟨0, Nat.zero_le _, rfl, Below.refl _ _, by simp [Hid]⟩
  case round =>
    obtain ⟨k, hk, rfl, hb, hno⟩ := hrel
    by_cases hlt : k < n
    · have hkl : k < l.length := by omega
      obtain ⟨b, off, rfl, hbl, d0, d1, d2, d3⟩ := (hs.below hb).head hkl
      generalize hx : l[k] = x at d0 d1 d2 d3
      have HX := Lib.hid hx
      clear hx
      have hc := HIT.out x wr (Nat.lt_of_lt_of_le hB1 hb.size) (Nat.lt_of_lt_of_le hB2 hb.size) ((hb.cell (p := ⟨B1, 0, none⟩) hB1).trans h1) ((hb.cell (p := ⟨B2, 0, none⟩) hB2).trans h2)
      generalize hβ : ishit s (q + 1) x = β at hc
      have HB := Lib.hid hβ
      have HC := Lib.hid hc
      clear hc hβ h1 h2
      go_wp2_with fail
      refine HC.out.mono ?_
      rintro e w2 ⟨rfl, hb2⟩
      clear HC d0 d1 d2 d3
      cases β with
      | true =>
        go_wp2
        go_ret
        refine ⟨?_, hb.trans (hb2.mono hb.size)⟩
        have : l.findIdx? (ishit s (q + 1)) = some k := by
          rw [List.findIdx?_eq_some_iff_getElem]
          refine ⟨hkl, by rw [HX.out, HB.out], fun j hj => ?_⟩
          have := hno.out l[j] (List.mem_take_iff_getElem.2 ⟨j, by omega, rfl⟩)
          rw [this]; simp
        rw [this]; rfl
      | false =>
        go_wp2
        go_roundw
        case rel =>
          refine ⟨k + 1, by omega, by go_num, hb.trans (hb2.mono hb.size), ?_⟩
          intro y hy
          rw [List.take_succ_eq_append_getElem hkl, List.mem_append] at hy
          rcases hy with hy | hy
          · exact hno.out y hy
          · rw [List.mem_singleton.1 hy, HX.out]; exact HB.out
        case measure => simp [intOf]; omega
    · have hno' := hno.out
      rw [List.take_of_length_le (by omega)] at hno'
      have hf : l.findIdx? (ishit s (q + 1)) = none := List.findIdx?_eq_none_iff.2 hno'
      have HF := Lib.hid hf
      clear hf hno' h1 h2
      go_wp2
      go_ret
      exact ⟨by rw [HF.out]; rfl, hb⟩
end Go.Proofs.Ytnobgbndgjfiaaa
