/- A slice of heads that can be read is a list of heads that are seen from its address on. -/
import Derived.Test.YtnobgbndgjfiaaaLaw
import Derived.Test.YtnobgbndgjfiaaaChainFind
import Derived.Deep.Slices
namespace Go.Proofs.Ytnobgbndgjfiaaa
open Go.ChangeShapes Go.WideShapes Go.ChangeAt Go.RowKit ChainPure

theorem cells42 : Try.prog.cellsOf 42 = 4 := by kernel_rfl
theorem cells24 : Try.prog.cellsOf 24 = 1 := by kernel_rfl

theorem open_hd {H : Type} {enc : TypeId × Value → H} {W : World} {fuel : Nat} {cs : List Value} {x : DataW H × List MemPlace} (h : DataW.trod enc Try.prog W 0 (fun _ => true) true fuel 42 cs = some x) : ∃ y : Hd, cs = hd y ∧ y.ok := by
  obtain ⟨xs, n, rfl, _, hlen, hxl, hf⟩ := DataW.trod_struct Try.underlying42 h
  rw [cells42] at hlen
  match cs, hlen with
  | [c0, c1, c2, c3], _ =>
    have g0 : DataW.trod enc Try.prog W 0 (fun _ => true) true n 5 ((([c0, c1, c2, c3] : List Value).drop 0).take (Try.prog.cellsOf 5)) = xs[0]? := hf 0 _ rfl
    have g1 : DataW.trod enc Try.prog W 0 (fun _ => true) true n 24 ((([c0, c1, c2, c3] : List Value).drop 1).take (Try.prog.cellsOf 24)) = xs[1]? := hf 1 _ rfl
    have g2 : DataW.trod enc Try.prog W 0 (fun _ => true) true n 24 ((([c0, c1, c2, c3] : List Value).drop 2).take (Try.prog.cellsOf 24)) = xs[2]? := hf 2 _ rfl
    have g3 : DataW.trod enc Try.prog W 0 (fun _ => true) true n 24 ((([c0, c1, c2, c3] : List Value).drop 3).take (Try.prog.cellsOf 24)) = xs[3]? := hf 3 _ rfl
    rw [cells5] at g0
    rw [cells24] at g1 g2 g3
    rw [List.getElem?_eq_getElem (by rw [hxl]; decide)] at g0 g1 g2 g3
    obtain ⟨a0, h0, _, w0⟩ := DataW.trod_int Try.underlying5 g0
    obtain ⟨a1, h1, _, w1⟩ := DataW.trod_int Try.underlying24 g1
    obtain ⟨a2, h2, _, w2⟩ := DataW.trod_int Try.underlying24 g2
    obtain ⟨a3, h3, _, w3⟩ := DataW.trod_int Try.underlying24 g3
    simp at h0 h1 h2 h3
    subst h0 h1 h2 h3
    have b0 := bounds_u8 w0
    have b1 := bounds_u32 w1
    have b2 := bounds_u32 w2
    have b3 := bounds_u32 w3
    refine ⟨⟨a0.toNat, a1.toNat, a2.toNat, a3.toNat⟩, ?_, ?_⟩
    · simp only [hd, List.cons.injEq, Value.int.injEq, true_and, and_true]
      omega
    · simp only [Hd.ok]
      omega

/-- A SLICE OF HEADS THAT IS READ. -/
theorem open_heads {H : Type} {enc : TypeId × Value → H} {W : World} {b0 : Nat} {v : Value} {d : DataW H} {p : List MemPlace} (hv : Value.okWide Try.prog W .any b0 32 v) (h : DataW.Trod enc Try.prog W 0 (fun _ => true) true 32 v d p)
    (hlt : ∀ x ∈ p, x.block < W.heap.size) :
    ∃ (A : Option Addr) (n c : Nat) (l : List Hd), v = .slice A n c ∧ l.length = n ∧ n ≤ c ∧ c ≤ maxLen ∧ (∀ x ∈ l, x.ok) ∧ Seen W W.heap.size A (headsV l) := by
  obtain ⟨A, len, cap, rfl⟩ := okWide_slice Try.underlying32 hv
  obtain ⟨fuel, hf⟩ := h
  rcases Go.Deep.open_slice Try.underlying32 hf with ⟨hcs, _⟩ | ⟨a, len', cap', m, n, D, Pl, hcs, _, hl, hm, hmm, hx, hi⟩
  · simp [Value.cells] at hcs
    obtain ⟨rfl, rfl, rfl⟩ := hcs
    exact ⟨none, 0, 0, [], rfl, rfl, Nat.le_refl _, by decide, by simp, Seen.nil _ _ _⟩
  · simp [Value.cells] at hcs
    obtain ⟨rfl, rfl, rfl⟩ := hcs
    simp only [Prod.mk.injEq] at hx
    obtain ⟨rfl, rfl⟩ := hx
    simp only [if_true] at hmm
    subst hmm
    obtain ⟨F, hF⟩ := Go.Deep.choose_lt (α := Hd) (p := fun i y => y.ok ∧ ∀ j, j < 4 → W.cell? (a.add (i * 4 + j)) = (hd y)[j]?) (fun i hii => by
      obtain ⟨cs', hc', ht'⟩ := hi i hii
      obtain ⟨y, rfl, hy⟩ := open_hd ht'
      obtain ⟨_, _, hat⟩ := World.cells?_some hc'
      rw [cells42] at hat
      exact ⟨y, hy, fun j hj => by rw [← Addr.add_add]; exact hat j hj⟩)
    refine ⟨some a, len, m, (List.range len).map F, rfl, by simp, hl, hm, fun x hx => ?_, fun j u hj => ⟨a, rfl, ?_, ?_⟩⟩
    · obtain ⟨i, hi', rfl⟩ := List.mem_map.1 hx
      exact (hF i (by have := List.mem_range.1 hi'; omega)).1
    · have hjl : j < len * 4 := by
        have := (List.getElem?_eq_some_iff.1 hj).1
        rw [headsV_length] at this
        simpa using this
      exact hlt (.cell a.block (a.off + j)) (List.mem_append_left _ (MemPlace.mem_row.2 ⟨j, by rw [cells42]; omega, rfl⟩))
    · have hjl : j < len * 4 := by
        have := (List.getElem?_eq_some_iff.1 hj).1
        rw [headsV_length] at this
        simpa using this
      have hdm : j = j / 4 * 4 + j % 4 := by omega
      rw [hdm] at hj ⊢
      rw [headsV_at _ _ _ (by omega) (by simp; omega)] at hj
      rw [(hF (j / 4) (by omega)).2 (j % 4) (by omega), ← hj]
      simp

/-- A 32-bit number that is read. -/
theorem open_u32 {H : Type} {enc : TypeId × Value → H} {W : World} {b0 : Nat} {v : Value} {d : DataW H} {p : List MemPlace} (hv : Value.okWide Try.prog W .any b0 24 v) (h : DataW.Trod enc Try.prog W 0 (fun _ => true) true 24 v d p) :
    ∃ n : Nat, v = .int .u32 (n : Int) ∧ n ≤ last := by
  obtain ⟨a, rfl, _, _, w⟩ := open_int Try.underlying24 hv h
  have := bounds_u32 w
  obtain ⟨n, rfl⟩ := Int.eq_ofNat_of_zero_le this.1
  exact ⟨n, rfl, by unfold last; omega⟩

end Go.Proofs.Ytnobgbndgjfiaaa
