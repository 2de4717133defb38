/- What all rows of this seat share: a call that returns true and leaves all that lay before it as it was meets 'true; the input reads as it did'; a slice of bytes that can be read is a list of bytes that are seen from its address on. -/
import Derived.Test.YtnobgbndgjfiaaaRows
import Derived.Test.YtnobgbndgjfiaaaSumTake
import Derived.WalkKit
import Derived.ProofKit
import Derived.SizedLaws
import Derived.OpenShut
namespace Go.Proofs.Ytnobgbndgjfiaaa
open Go.ChangeShapes Go.WideShapes Go.ChangeAt Go.RowKit

theorem own : ownKnob Try.prog.godebug = none := by kernel_rfl
theorem laidOut : laidOutB Try.prog = true := by kernel_rfl

theorem keep_all {H : Type} {enc : TypeId × Value → H} {P : Program} (hl : laidOutB P = true) {W W' : World} (hb : Below W.heap.size W W') :
    ∀ (ts : List TypeId) (vs : List Value) (ds : List (DataW H)) (ps : List MemPlace), (∀ t ∈ ts, P.readableRec t = true ∧ t < P.types.size) →
      DataW.TrodAll enc P W 0 (fun _ => true) true ts vs ds ps → (∀ x ∈ ps, x.block < W.heap.size) → DataW.TrodAll enc P W' 0 (fun b => decide (b < W.heap.size)) true ts vs ds ps
  | [], [], [], _, _, h, _ => h
  | [], _ :: _, _, _, _, h, _ => h.elim
  | [], [], _ :: _, _, _, h, _ => h.elim
  | _ :: _, [], _, _, _, h, _ => h.elim
  | _ :: _, _ :: _, [], _, _, h, _ => h.elim
  | t :: ts, v :: vs, d :: ds, ps, ht, h, hlt => by
    obtain ⟨p, q, h1, h2, rfl⟩ := h
    obtain ⟨hr, hrow⟩ := ht t List.mem_cons_self
    exact ⟨p, q, Below.trod hl hr hrow h1 hb (fun x hx => hlt x (List.mem_append_left _ hx)),
      keep_all hl hb ts vs ds q (fun t' ht' => ht t' (List.mem_cons_of_mem _ ht')) h2 (fun x hx => hlt x (List.mem_append_right _ hx)), rfl⟩

/-- THE END OF EACH ROW. -/
theorem law_post {H : Type} {enc : TypeId × Value → H} {f : Func} {s : ChangeSpec} (hres : f.resultTypes = #[4]) (hpar : ∀ t ∈ f.params.toList, Try.prog.readableRec t = true ∧ t < Try.prog.types.size)
    (hv : s.vars = []) {W W' : World} {args : Array Value} {ds gs : List (DataW H)} {before : List MemPlace}
    (hfn : s.fn H (ds ++ gs) = { results := [.lit (.bool true)], args := ds }) (hW : DataW.Whole enc Try.prog f.params.toList s.vars false W args.toList ds gs before) (hb : Below W.heap.size W W') :
    s.post enc Try.prog f false true false false W args (.bool true) W' := by
  have hlt : ∀ x ∈ before, x.block < W.heap.size := fun x hx => hW.lt x hx
  have hW' := hW
  obtain ⟨p, q, hA, hV, rfl, _, _⟩ := hW
  refine ⟨ds, gs, p ++ q, [], p, [], hW', ?_, ?_, ?_, hb.frame _, fun h => by cases h⟩
  · rw [hfn, hres]
    exact trodAll_cons_mk (shut_bool Try.underlying4 _) trodAll_mk0
  · rw [hfn]
    exact keep_all laidOut hb _ _ _ _ hpar hA (fun x hx => hlt x (List.mem_append_left _ hx))
  · rw [hfn, hv]
    rfl

theorem cells5 : Try.prog.cellsOf 5 = 1 := by kernel_rfl

/-- A SLICE OF BYTES THAT IS READ. -/
theorem open_bytes {H : Type} {enc : TypeId × Value → H} {W : World} {b0 : Nat} {v : Value} {d : DataW H} {p : List MemPlace} (hv : Value.okWide Try.prog W .any b0 22 v) (h : DataW.Trod enc Try.prog W 0 (fun _ => true) true 22 v d p)
    (hlt : ∀ x ∈ p, x.block < W.heap.size) :
    ∃ (A : Option Addr) (n c : Nat) (l : List Nat), v = .slice A n c ∧ l.length = n ∧ n ≤ c ∧ c ≤ maxLen ∧ (∀ b ∈ l, b < 256) ∧ Seen W W.heap.size A (bytesV l) := by
  obtain ⟨A, len, cap, rfl⟩ := okWide_slice Try.underlying22 hv
  obtain ⟨fuel, hf⟩ := h
  rcases open_ints Try.underlying22 Try.underlying5 cells5 hf with ⟨hcs, _⟩ | ⟨a, len', cap', zs, hcs, _, hl, hm, hz, hx, hcell, hw⟩
  · simp [Value.cells] at hcs
    obtain ⟨rfl, rfl, rfl⟩ := hcs
    exact ⟨none, 0, 0, [], rfl, rfl, Nat.le_refl _, by decide, by simp, Seen.nil _ _ _⟩
  · simp [Value.cells] at hcs
    obtain ⟨rfl, rfl, rfl⟩ := hcs
    simp only [Prod.mk.injEq] at hx
    obtain ⟨rfl, rfl⟩ := hx
    simp only [if_true] at hz
    refine ⟨some a, len, cap, (zs.take len).map Int.toNat, rfl, by simp; omega, hl, hm, fun b hb => ?_, fun j u hj => ⟨a, rfl, ?_, ?_⟩⟩
    · obtain ⟨z, hz', rfl⟩ := List.mem_map.1 hb
      have := bounds_u8 (hw z (List.mem_of_mem_take hz'))
      omega
    · have hjl : j < zs.length := by
        have := (List.getElem?_eq_some_iff.1 hj).1
        simp [bytesV] at this
        omega
      exact hlt (.cell a.block (a.off + j)) (MemPlace.mem_row.2 ⟨j, hjl, rfl⟩)
    · have hjl : j < zs.length := by
        have := (List.getElem?_eq_some_iff.1 hj).1
        simp [bytesV] at this
        omega
      have hjn : j < len := by
        have := (List.getElem?_eq_some_iff.1 hj).1
        simp [bytesV] at this
        omega
      rw [hcell j hjl, ← hj]
      have hb := bounds_u8 (hw zs[j] (List.getElem_mem hjl))
      simp [bytesV, hjl, hjn]
      omega

end Go.Proofs.Ytnobgbndgjfiaaa
