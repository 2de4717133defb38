/- The law's own function awake of chapter 3 returns true, in whatever order Go evaluates its one statement. -/
import Derived.Test.YtnobgbndgjfiaaaSumOf
import Derived.Deep.RegionHeld3
import Derived.Deep.RegionWith
namespace Go.Proofs.Ytnobgbndgjfiaaa
open Go.RowKit

/-- 'Wikipedia'. -/
def word : List Nat := [87, 105, 107, 105, 112, 101, 100, 105, 97]
theorem word_lt : ∀ b ∈ word, b < 256 := by decide
def Wd (B : Nat) (w1 w : World) : Prop := Below w1.heap.size w1 w ∧ Seen w1 w1.heap.size (some ⟨B, 0, none⟩) (bytesV word)
theorem Wd.drew {B : Nat} {w1 w : World} (h : Wd B w1 w) : Wd B w1 w.drew := ⟨h.1.drew, h.2⟩
theorem Wd.step {B : Nat} {w1 w w' : World} (h : Wd B w1 w) (hb : Below w.heap.size w w') : Wd B w1 w' := ⟨h.1.trans (hb.mono h.1.size), h.2⟩
theorem Wd.seen {B : Nat} {w1 w : World} (h : Wd B w1 w) : Seen w w.heap.size (some ⟨B, 0, none⟩) (bytesV word) := (h.2.below h.1).more h.1.size
theorem Wd.seen4 {B : Nat} {w1 w : World} (h : Wd B w1 w) : Seen w w.heap.size (some ⟨B, 4, none⟩) (bytesV (word.drop 4)) := by
  have := h.seen.cut (n := 9) (cap := 9) (k := 4) (by omega) (by omega) rfl
  rw [if_neg (by omega)] at this
  exact this

theorem of9 (B : Nat) (w1 W : World) (h : Wd B w1 W) : Calls Try.prog 16 #[.slice (some ⟨B, 0, none⟩) 9 9] W fun e w' => e = .returned (.int .u32 300286872) ∧ Wd B w1 w' := by
  refine (of_any word _ 9 9 rfl (by omega) (by decide) word_lt W h.seen).mono fun e w' ⟨he, hb⟩ => ⟨he.trans ?_, h.step hb⟩
  rw [show SumPure.sum word = 300286872 from by decide]; rfl
theorem of4 (B : Nat) (w1 W : World) (h : Wd B w1 W) : Calls Try.prog 16 #[.slice (some ⟨B, 0, none⟩) 4 9] W fun e w' => e = .returned (.int .u32 64618901) ∧ Wd B w1 w' := by
  refine (of_any (word.take 4) _ 4 9 rfl (by omega) (by decide) (by decide) W (by rw [bytesV_take]; exact h.seen.take 4)).mono fun e w' ⟨he, hb⟩ => ⟨he.trans ?_, h.step hb⟩
  rw [show SumPure.sum (word.take 4) = 64618901 from by decide]; rfl
theorem of5 (B : Nat) (w1 W : World) (h : Wd B w1 W) : Calls Try.prog 16 #[.slice (some ⟨B, 4, none⟩) 5 5] W fun e w' => e = .returned (.int .u32 103285252) ∧ Wd B w1 w' := by
  refine (of_any (word.drop 4) _ 5 5 rfl (by omega) (by decide) (by decide) W h.seen4).mono fun e w' ⟨he, hb⟩ => ⟨he.trans ?_, h.step hb⟩
  rw [show SumPure.sum (word.drop 4) = 103285252 from by decide]; rfl
theorem of0 (B : Nat) (w1 W : World) (h : Wd B w1 W) : Calls Try.prog 16 #[.slice none 0 0] W fun e w' => e = .returned (.int .u32 1) ∧ Wd B w1 w' := by
  refine (of_any [] _ 0 0 rfl (by omega) (by decide) (by decide) W (Seen.nil _ _ _)).mono fun e w' ⟨he, hb⟩ => ⟨he.trans ?_, h.step hb⟩
  rw [show SumPure.sum [] = 1 from by decide]; rfl
theorem add5 (B : Nat) (w1 W : World) (h : Wd B w1 W) : Calls Try.prog 18 #[.int .u32 64618901, .slice (some ⟨B, 4, none⟩) 5 5] W fun e w' => e = .returned (.int .u32 300286872) ∧ Wd B w1 w' := by
  have := (add_any (word.take 4) (word.drop 4) (some ⟨B, 4, none⟩) 5 5 rfl (by omega) (by decide) (by decide) W h.seen4).mono (fun e w' ⟨he, hb⟩ => (⟨he, h.step hb⟩ : e = Ending.returned (.int .u32 ((SumPure.sum (word.take 4 ++ word.drop 4) : Nat) : Int)) ∧ Wd B w1 w'))
  rw [show SumPure.sum (word.take 4 ++ word.drop 4) = 300286872 from by decide, show SumPure.sum (word.take 4) = 64618901 from by decide] at this
  exact this
theorem join5 (B : Nat) (w1 W : World) (h : Wd B w1 W) : Calls Try.prog 19 #[.int .u32 64618901, .int .u32 103285252, .int .i64 5] W fun e w' => e = .returned (.int .u32 300286872) ∧ Wd B w1 w' := by
  have := (join_any (word.take 4) (word.drop 4) 5 rfl (by decide) W).mono (fun e w' ⟨he, hb⟩ => (⟨he, hb ▸ h⟩ : e = Ending.returned (.int .u32 ((SumPure.sum (word.take 4 ++ word.drop 4) : Nat) : Int)) ∧ Wd B w1 w'))
  rw [show SumPure.sum (word.take 4 ++ word.drop 4) = 300286872 from by decide, show SumPure.sum (word.take 4) = 64618901 from by decide, show SumPure.sum (word.drop 4) = 103285252 from by decide] at this
  exact this

theorem word_new (w : World) : Wd w.heap.size (w.alloc (.cells #[.int .u8 87, .int .u8 105, .int .u8 107, .int .u8 105, .int .u8 112, .int .u8 101, .int .u8 100, .int .u8 105, .int .u8 97] 5)) (w.alloc (.cells #[.int .u8 87, .int .u8 105, .int .u8 107, .int .u8 105, .int .u8 112, .int .u8 101, .int .u8 100, .int .u8 105, .int .u8 97] 5)) := by
  refine ⟨Below.refl _ _, fun j u hj => ⟨_, rfl, by simp, ?_⟩⟩
  rw [Addr.add_lit, Nat.zero_add, cell_of_row _ _ _ _ _ _ (heap_alloc_new _ _), ← hj]
  simp [bytesV, word]

theorem awake_any (w : World) : Calls Try.prog 15 #[] w fun e w' => e = .returned (.bool true) ∧ Below w.heap.size w w' := by
  have h0 := word_new w
  have hb0 : Below w.heap.size w (w.alloc (.cells #[.int .u8 87, .int .u8 105, .int .u8 107, .int .u8 105, .int .u8 112, .int .u8 101, .int .u8 100, .int .u8 105, .int .u8 97] 5)) := (Below.refl _ _).alloc (Nat.le_refl _) _
  generalize hB : w.heap.size = B at h0
  go_enter Try.func15, Try.ntmps15
  go_wp2
  generalize (w.alloc (.cells #[.int .u8 87, .int .u8 105, .int .u8 107, .int .u8 105, .int .u8 112, .int .u8 101, .int .u8 100, .int .u8 105, .int .u8 97] 5)) = w1 at h0 hb0 ⊢
  have HB := Lib.hid hB
  clear hB
  go_region_held3 (fun w' => Wd B w1 w') (first | assumption | (exact Wd.drew h0))
    (first
      | (go_at_call_of 16 (Value.slice (some ⟨B, 0, none⟩) 9 9); refine (of9 B w1 _ ?_).mono ?_; (first | assumption | (exact Wd.drew h0)); rintro e w' ⟨rfl, hw⟩)
      | (go_at_call_of 16 (Value.slice (some ⟨B, 0, none⟩) 4 9); refine (of4 B w1 _ ?_).mono ?_; (first | assumption | (exact Wd.drew h0)); rintro e w' ⟨rfl, hw⟩)
      | (go_at_call_of 16 (Value.slice (some ⟨B, 4, none⟩) 5 5); refine (of5 B w1 _ ?_).mono ?_; (first | assumption | (exact Wd.drew h0)); rintro e w' ⟨rfl, hw⟩)
      | (go_at_call_of 16 (Value.slice none 0 0); refine (of0 B w1 _ ?_).mono ?_; (first | assumption | (exact Wd.drew h0)); rintro e w' ⟨rfl, hw⟩)
      | (go_at_call 18; refine (add5 B w1 _ ?_).mono ?_; (first | assumption | (exact Wd.drew h0)); rintro e w' ⟨rfl, hw⟩)
      | (go_at_call 19; refine (join5 B w1 _ ?_).mono ?_; (first | assumption | (exact Wd.drew h0)); rintro e w' ⟨rfl, hw⟩))
  go_wp2
  go_ret
  exact ⟨rfl, HB.out ▸ hb0.trans (hw.1.mono hb0.size)⟩
end Go.Proofs.Ytnobgbndgjfiaaa
