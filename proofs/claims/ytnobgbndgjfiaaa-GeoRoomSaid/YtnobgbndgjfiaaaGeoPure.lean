/- Plain words for geometries: how many blocks there may be, which geometry may be, a page's address and an address' page. -/
import Derived.WalkKit
namespace Go.Proofs.Ytnobgbndgjfiaaa.GeoPure

def ok (z p n : Int) : Bool := decide ((n + 3) / 4 ≤ p) && decide (n + (n + 3) / 4 ≤ (z - 7) * p / 2)
def best (z p : Int) : Nat → Int
  | 0 => 0
  | n + 1 => if ok z p ((n : Int) + 1) then (n : Int) + 1 else best z p n
def zin (z : Int) : Bool := decide (11 ≤ z) && decide (z ≤ 24)
def pin (p : Int) : Bool := decide (4 ≤ p) && decide (p ≤ 16)
def bnd (z p : Int) : Int := if zin z && pin p then best z p 64 else 0
def right (z p x : Int) : Bool := decide (1 ≤ x) && decide (x ≤ bnd z p)

theorem best_range (z p : Int) : ∀ n, 0 ≤ best z p n ∧ best z p n ≤ n
  | 0 => by simp [best]
  | n + 1 => by
    have := best_range z p n
    unfold best
    split <;> omega
theorem best_ok (z p : Int) : ∀ n, 0 < best z p n → ok z p (best z p n) = true
  | 0 => by simp [best]
  | n + 1 => by
    have := best_ok z p n
    unfold best
    split
    · rename_i h
      exact fun _ => h
    · exact this
theorem best_ge (z p : Int) : ∀ (n : Nat) (k : Nat), k ≤ n → ok z p k = true → (k : Int) ≤ best z p n
  | 0, k, hk, _ => by have := (best_range z p 0).1; omega
  | n + 1, k, hk, h => by
    unfold best
    split
    · omega
    · rename_i h'
      have : k ≤ n := by
        apply Classical.byContradiction
        intro hn
        obtain rfl : k = n + 1 := by omega
        exact h' (by simpa using h)
      exact best_ge z p n k this h
theorem best_mono (z p z' p' : Int) (n : Nat) (h : ∀ k : Int, 0 < k → ok z p k = true → ok z' p' k = true) : best z p n ≤ best z' p' n := by
  have h1 := best_range z p n
  by_cases h0 : 0 < best z p n
  · obtain ⟨k, hk⟩ := Int.eq_ofNat_of_zero_le h1.1
    have := h _ h0 (best_ok z p n h0)
    rw [hk] at this ⊢
    exact best_ge _ _ n k (by omega) this
  · have := (best_range z' p' n).1
    omega

theorem bnd_range (z p : Int) : 0 ≤ bnd z p ∧ bnd z p ≤ 64 := by
  unfold bnd
  split
  · have := best_range z p 64
    omega
  · omega
theorem in_of_bnd {z p : Int} (h : 0 < bnd z p) : 11 ≤ z ∧ z ≤ 24 ∧ 4 ≤ p ∧ p ≤ 16 := by
  unfold bnd at h
  split at h
  · rename_i h'
    simpa [zin, pin, and_assoc] using h'
  · omega
theorem bnd_ok {z p : Int} (h : 0 < bnd z p) : ok z p (bnd z p) = true := by
  unfold bnd at h ⊢
  split at h
  · rename_i h'
    rw [if_pos h']
    exact best_ok z p 64 h
  · omega
theorem prod_range {z p : Int} (h : 11 ≤ z ∧ z ≤ 24 ∧ 4 ≤ p ∧ p ≤ 16) : 16 ≤ (z - 7) * p ∧ (z - 7) * p ≤ 272 := by
  have h1 : (4 : Int) * 4 ≤ (z - 7) * p := Int.mul_le_mul (by omega) (by omega) (by omega) (by omega)
  have h2 : (z - 7) * p ≤ (17 : Int) * 16 := Int.mul_le_mul (by omega) (by omega) (by omega) (by omega)
  omega
theorem ok_room {z p n : Int} (h : ok z p n = true) : 2 * (n + (n + 3) / 4) ≤ (z - 7) * p ∧ (n + 3) / 4 ≤ p := by
  simp only [ok, Bool.and_eq_true, decide_eq_true_eq] at h
  omega
theorem bnd_more_z {z p : Int} (h1 : 11 ≤ z) (h2 : z < 24) : bnd z p ≤ bnd (z + 1) p := by
  unfold bnd
  by_cases hp : pin p = true
  · rw [if_pos (by simp [zin, hp]; omega), if_pos (by simp [zin, hp]; omega)]
    have hp' : 4 ≤ p := by simp [pin] at hp; omega
    refine best_mono _ _ _ _ _ fun k _ hk => ?_
    simp only [ok, Bool.and_eq_true, decide_eq_true_eq] at hk ⊢
    have e : (z + 1 - 7) * p = (z - 7) * p + p := by
      rw [show z + 1 - 7 = (z - 7) + 1 from by omega, Int.add_mul, Int.one_mul]
    rw [e]
    omega
  · rw [if_neg (by simp [hp]), if_neg (by simp [hp])]
    omega
theorem bnd_more_p {z p : Int} (h1 : 4 ≤ p) (h2 : p < 16) : bnd z p ≤ bnd z (p + 1) := by
  unfold bnd
  by_cases hz : zin z = true
  · rw [if_pos (by simp [pin, hz]; omega), if_pos (by simp [pin, hz]; omega)]
    have hz' : 11 ≤ z := by simp [zin] at hz; omega
    refine best_mono _ _ _ _ _ fun k _ hk => ?_
    simp only [ok, Bool.and_eq_true, decide_eq_true_eq] at hk ⊢
    have e : (z - 7) * (p + 1) = (z - 7) * p + (z - 7) := by rw [Int.mul_add, Int.mul_one]
    rw [e]
    omega
  · rw [if_neg (by simp [hz]), if_neg (by simp [hz])]
    omega
theorem in_of_right {z p x : Int} (h : right z p x = true) : 11 ≤ z ∧ z ≤ 24 ∧ 4 ≤ p ∧ p ≤ 16 := by
  simp only [right, Bool.and_eq_true, decide_eq_true_eq] at h
  exact in_of_bnd (by omega)
end Go.Proofs.Ytnobgbndgjfiaaa.GeoPure
