/- A geometry that lies in a box of the function's own: it is read there as it was, behind every call that leaves all that lay before it. -/
import Derived.Test.YtnobgbndgjfiaaaGeoOf
namespace Go.Proofs.Ytnobgbndgjfiaaa
open Go.RowKit GeoPure

/-- The box lies in w, and all below it is as it was in w0. -/
def Over (B : Nat) (w0 w : World) : Prop := B < w.heap.size ∧ Below B w0 w
theorem Over.drew {B : Nat} {w0 w : World} (h : Over B w0 w) : Over B w0 w.drew := ⟨h.1, h.2.drew⟩
theorem Over.drewN {B : Nat} {w0 w : World} (h : Over B w0 w) (n : Nat) : Over B w0 (w.drewN n) := ⟨h.1, below_drewN h.2 n⟩

theorem held {f : FuncId} {args : Array Value} {v : Value} (hc : ∀ W, Calls Try.prog f args W fun e W' => e = .returned v ∧ Below W.heap.size W W') {B : Nat} {z p x : Int} {w0 W : World} (h : (W.cell? ⟨B, 0, none⟩ = some (.int .i64 z) ∧ W.cell? ⟨B, 1, none⟩ = some (.int .i64 p) ∧ W.cell? ⟨B, 2, none⟩ = some (.int .i64 x) ∧ Over B w0 W)) :
    Calls Try.prog f args W fun e W' => e = .returned v ∧ (W'.cell? ⟨B, 0, none⟩ = some (.int .i64 z) ∧ W'.cell? ⟨B, 1, none⟩ = some (.int .i64 p) ∧ W'.cell? ⟨B, 2, none⟩ = some (.int .i64 x) ∧ Over B w0 W') := by
  obtain ⟨h0, h1, h2, hl, hb⟩ := h
  refine (hc W).mono fun e W' ⟨he, hb'⟩ => ⟨he, ?_, ?_, ?_, Nat.lt_of_lt_of_le hl hb'.size, hb.trans (hb'.mono (Nat.le_of_lt hl))⟩
  · exact (hb'.cell hl).trans h0
  · exact (hb'.cell hl).trans h1
  · exact (hb'.cell hl).trans h2

theorem held_same {f : FuncId} {args : Array Value} {v : Value} (hc : ∀ W, Calls Try.prog f args W fun e W' => e = .returned v ∧ W = W') {B : Nat} {z p x : Int} {w0 W : World} (h : (W.cell? ⟨B, 0, none⟩ = some (.int .i64 z) ∧ W.cell? ⟨B, 1, none⟩ = some (.int .i64 p) ∧ W.cell? ⟨B, 2, none⟩ = some (.int .i64 x) ∧ Over B w0 W)) :
    Calls Try.prog f args W fun e W' => e = .returned v ∧ (W'.cell? ⟨B, 0, none⟩ = some (.int .i64 z) ∧ W'.cell? ⟨B, 1, none⟩ = some (.int .i64 p) ∧ W'.cell? ⟨B, 2, none⟩ = some (.int .i64 x) ∧ Over B w0 W') :=
  held (fun W => (hc W).mono fun _ _ ⟨he, h⟩ => ⟨he, h ▸ Below.refl _ _⟩) h

theorem box_new {z p x : Int} {w W : World} {t : TypeId} (hW : W = w.alloc (.cells #[.int .i64 z, .int .i64 p, .int .i64 x] t)) : (W.cell? ⟨w.heap.size, 0, none⟩ = some (.int .i64 z) ∧ W.cell? ⟨w.heap.size, 1, none⟩ = some (.int .i64 p) ∧ W.cell? ⟨w.heap.size, 2, none⟩ = some (.int .i64 x) ∧ Over w.heap.size w W) := by
  subst hW
  refine ⟨?_, ?_, ?_, by simp, (Below.refl _ _).alloc (Nat.le_refl _) _⟩
  · rw [cell_of_row _ _ _ _ _ _ (heap_alloc_new _ _)]; rfl
  · rw [cell_of_row _ _ _ _ _ _ (heap_alloc_new _ _)]; rfl
  · rw [cell_of_row _ _ _ _ _ _ (heap_alloc_new _ _)]; rfl
end Go.Proofs.Ytnobgbndgjfiaaa
