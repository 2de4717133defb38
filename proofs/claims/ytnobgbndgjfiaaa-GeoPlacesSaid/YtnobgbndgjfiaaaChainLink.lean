/- chain.link and the closure that seeks a link return what the plain words say of the head: for every session, Seq and head. -/
import Derived.Test.YtnobgbndgjfiaaaProg
import Derived.Test.YtnobgbndgjfiaaaMem
import Derived.Test.YtnobgbndgjfiaaaChainPure
import Derived.WalkKit
import Derived.WalkLawsBesides
import Derived.Lib.Hide
import Derived.Outline
namespace Go.Proofs.Ytnobgbndgjfiaaa
open Go.RowKit ChainPure

/-- A head's cells. -/
def hd (h : Hd) : List Value := [.int .u8 (h.kind : Int), .int .u32 (h.session : Int), .int .u32 (h.id : Int), .int .u32 (h.seq : Int)]

theorem beq_cast (a b : Nat) : ((a : Int) == (b : Int)) = (a == b) := by
  rw [Bool.eq_iff_iff]; simp [Int.ofNat_inj]

theorem link_any (s : Nat) (h : Hd) (w : World) :
    Calls Try.prog 44 #[.int .u32 (s : Int), .agg #[.int .u8 (h.kind : Int), .int .u32 (h.session : Int), .int .u32 (h.id : Int), .int .u32 (h.seq : Int)]] w fun e w' => e = .returned (.bool (islink s h)) ∧ Below w.heap.size w w' := by
  obtain ⟨k, se, id, q⟩ := h
  by_cases h2 : k = 2
  · subst h2
    go_enter Try.func44, Try.ntmps44
    go_wp2
    go_ret
    exact ⟨by simp [islink, beq_cast], (Below.refl _ _).alloc (Nat.le_refl _) _⟩
  · by_cases h1 : k = 1
    · subst h1
      go_enter Try.func44, Try.ntmps44
      go_wp2
      go_ret
      exact ⟨by simp [islink, beq_cast], (Below.refl _ _).alloc (Nat.le_refl _) _⟩
    · have e2 : ((k : Int) == 2) = false := by simp; omega
      have e1 : ((k : Int) == 1) = false := by simp; omega
      have hl : islink s ⟨k, se, id, q⟩ = false := by simp [islink, h1, h2]
      have HL := Lib.hid hl
      clear h1 h2 hl
      go_enter Try.func44, Try.ntmps44
      go_wp2
      go_ret
      exact ⟨by rw [HL.out]; rfl, (Below.refl _ _).alloc (Nat.le_refl _) _⟩

theorem hit_any (s q : Nat) (hq : q + 1 < 4294967296) (h : Hd) (B1 B2 : Nat) (w : World) (hB1 : B1 < w.heap.size) (hB2 : B2 < w.heap.size) (h1 : w.cell? ⟨B1, 0, none⟩ = some (.int .u32 (s : Int))) (h2 : w.cell? ⟨B2, 0, none⟩ = some (.int .u32 (q : Int))) :
    Calls Try.prog 43 #[.agg #[.int .u8 (h.kind : Int), .int .u32 (h.session : Int), .int .u32 (h.id : Int), .int .u32 (h.seq : Int)], .pointer (some ⟨B1, 0, none⟩), .pointer (some ⟨B2, 0, none⟩)] w fun e w' => e = .returned (.bool (ishit s (q + 1) h)) ∧ Below w.heap.size w w' := by
  have hL := link_any s h
  have hq' : (q : Int) + 1 < 4294967296 := by omega
  unfold ishit
  rw [← beq_cast h.seq (q + 1), Int.natCast_add]
  generalize islink s h = β at hL
  obtain ⟨k, se, id, sq⟩ := h
  simp only at hL ⊢
  have HL := Lib.hid hL
  clear hL
  cases β with
  | true =>
    go_enter Try.func43, Try.ntmps43
    go_wp2_with fail
    refine (HL.out _).mono ?_
    rintro e w1 ⟨rfl, hb⟩
    have c0 := hb.cell (p := ⟨w.heap.size, 3, none⟩) (by simp)
    have c2 := hb.cell (p := ⟨B2, 0, none⟩) (by simp; omega)
    go_wp2
    go_ret
    exact ⟨by simp, ((Below.refl _ _).alloc (Nat.le_refl _) _).trans (hb.mono (by simp))⟩
  | false =>
    go_enter Try.func43, Try.ntmps43
    go_wp2_with fail
    refine (HL.out _).mono ?_
    rintro e w1 ⟨rfl, hb⟩
    go_wp2
    go_ret
    exact ⟨by simp, ((Below.refl _ _).alloc (Nat.le_refl _) _).trans (hb.mono (by simp))⟩
end Go.Proofs.Ytnobgbndgjfiaaa
