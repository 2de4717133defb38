/- Words on memory, proved: cells that are seen from a slice's address on stay so over draws, new blocks, stores elsewhere, and over whatever leaves the blocks below a bound alone; a cut of a slice sees the rest of the cells. -/
import Derived.Below
import Derived.OneCell
import Derived.Deep.Draws
import Derived.DataElems
import Derived.ChangeSlices
import Derived.Laws.Rows
namespace Go.Proofs.Ytnobgbndgjfiaaa
open Go.RowKit

/-- From the address A on lie the cells xs, in a block below B (nothing is asked of A where there are none). -/
def Seen (w : World) (B : Nat) (A : Option Addr) (xs : List Value) : Prop :=
  ∀ j u, xs[j]? = some u → ∃ ad, A = some ad ∧ ad.block < B ∧ w.cell? (ad.add j) = some u

theorem add_block (a : Addr) (n : Nat) : (a.add n).block = a.block := by
  unfold Addr.add; split <;> rfl

theorem Seen.nil (w : World) (B : Nat) (A : Option Addr) : Seen w B A [] := fun j u h => by simp at h
theorem Seen.below {w w' : World} {B : Nat} {A : Option Addr} {xs : List Value} (h : Seen w B A xs) (hb : Below B w w') : Seen w' B A xs := fun j u hj => by
  obtain ⟨ad, e, hl, hc⟩ := h j u hj
  exact ⟨ad, e, hl, (hb.cell (by rw [add_block]; exact hl)).trans hc⟩
theorem Seen.more {w : World} {B B' : Nat} {A : Option Addr} {xs : List Value} (h : Seen w B A xs) (hB : B ≤ B') : Seen w B' A xs := fun j u hj => by
  obtain ⟨ad, e, hl, hc⟩ := h j u hj
  exact ⟨ad, e, by omega, hc⟩
theorem Seen.take {w : World} {B : Nat} {A : Option Addr} {xs : List Value} (h : Seen w B A xs) (n : Nat) : Seen w B A (xs.take n) := fun j u hj => by
  refine h j u ?_
  rw [List.getElem?_take] at hj
  split at hj
  · exact hj
  · cases hj
theorem Seen.cut {w : World} {B : Nat} {A : Option Addr} {xs : List Value} (h : Seen w B A xs) {n cap k : Nat} (hn : k ≤ n) (hcap : n ≤ cap) (hl : xs.length = n) :
    Seen w B (if cap = k then A else A.map (·.add k)) (xs.drop k) := fun j u hj => by
  rw [List.getElem?_drop] at hj
  obtain ⟨ad, rfl, hb, hc⟩ := h _ u hj
  have hlt : k + j < xs.length := by
    rcases Nat.lt_or_ge (k + j) xs.length with h' | h'
    · exact h'
    · rw [List.getElem?_eq_none h'] at hj; cases hj
  rw [if_neg (by omega)]
  exact ⟨ad.add k, rfl, by rw [add_block]; exact hb, by rw [Addr.add_add]; exact hc⟩

end Go.Proofs.Ytnobgbndgjfiaaa
