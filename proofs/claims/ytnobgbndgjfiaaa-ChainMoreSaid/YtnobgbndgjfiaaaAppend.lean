/- append onto a row of the call's own, of cells that are seen from a slice's address on (a nil slice too): the result is a slice of the call's own that holds both rows; below the call's own blocks nothing has turned. -/
import Derived.Test.YtnobgbndgjfiaaaMem
import Derived.Maps.AppendAt
import Derived.OwnWalk
import Derived.Laws.OwnMore
namespace Go.Proofs.Ytnobgbndgjfiaaa
open Go.RowKit

/-- What the call owns is seen. -/
theorem Seen.of_own {w : World} {B : Nat} {e : TypeId} {size n : Nat} {v : Value} {xs : List Value} (h : w.ownsRow B e size v n xs) :
    ∃ A c, v = .slice A n c ∧ n ≤ c ∧ c ≤ maxLen ∧ Seen w w.heap.size A xs := by
  have h' := h
  obtain ⟨hl, ⟨rfl, rfl⟩ | ⟨g, cap, cur, rfl, _, hh, hn, hc, _⟩⟩ := h
  · have hx : xs = [] := List.eq_nil_of_length_eq_zero (by simpa using hl)
    subst hx
    exact ⟨none, 0, rfl, Nat.le_refl _, by decide, Seen.nil _ _ _⟩
  · exact ⟨some ⟨g, 0, none⟩, cap, rfl, hn, hc, fun j u hj => ⟨_, rfl, (h'.lt g rfl).2, h'.cells rfl j u hj⟩⟩

section
variable {P : Program} (w : World)

theorem run_append_seen (B : Nat) (t ty e : TypeId) (i : TypeInfo) (z : Value) (size bytes : Nat) (ht : P.underlying t = some (.slice e)) (hi : P.info? e = some i) (hz : i.zero = some z)
    (hsize : i.size = size) (hby : i.bytes = bytes) (hzs : z.cells.size = size) (hsz : 0 < size) (v : Value) (n : Nat) (xs : List Value) (hown : w.ownsRow B e size v n xs)
    (B' : Nat) (A : Option Addr) (m c : Nat) (news : List Value) (hl : news.length = m * size) (hs : Seen w B' A news) (h1 : ∀ u ∈ news, u.oneCell' = true)
    (h63 : n + m ≤ maxLen) (hbytes : (n + m) * bytes ≤ 140737488355328) (hB : B ≤ w.heap.size) :
    ∃ A' c' w', (Builtin.append_ #[t, t] ty #[v, .slice A m c]).run P w = .ok (.slice A' (n + m) c') w' ∧ w'.ownsRow B e size (.slice A' (n + m) c') (n + m) (xs ++ news) ∧ Below B w w' ∧
      n + m ≤ c' ∧ c' ≤ maxLen ∧ Seen w' w'.heap.size A' (xs ++ news) := by
  cases A with
  | none =>
    have hn : news = [] := by
      cases news with
      | nil => rfl
      | cons u r => obtain ⟨ad, h, _⟩ := hs 0 u rfl; cases h
    subst hn
    have hm : m = 0 := by
      rcases Nat.eq_zero_or_pos m with h | h
      · exact h
      · have := Nat.mul_pos h hsz
        simp at hl
        omega
    subst hm
    obtain ⟨A', c', rfl, hc, hm, hsee⟩ := Seen.of_own hown
    refine ⟨A', c', w, ?_, by simpa using hown, Below.refl _ _, hc, hm, by simpa using hsee⟩
    obtain ⟨_, ⟨h, rfl⟩ | ⟨g, cap, cur, h, _, _, hnc, _⟩⟩ := hown
    · injection h with h1 h2 h3
      subst h1; subst h3
      simp [Builtin.append_, run_underlying ht, sizeOf, typeInfo, hi, Builtin.lenOf, Builtin.firstCells]
    · injection h with h1 h2 h3
      subst h1; subst h3
      simp [Builtin.append_, run_underlying ht, sizeOf, typeInfo, hi, Builtin.lenOf, Builtin.firstCells, hnc, storeCells]
  | some ad =>
    have hcells : ∀ j u, news[j]? = some u → w.cell? (ad.add j) = some u := fun j u hj => by
      obtain ⟨ad', h, _, hc⟩ := hs j u hj
      injection h with h
      subst h
      exact hc
    obtain ⟨v', w', hrun, hown', hg, _, _⟩ := run_append_own_at (P := P) w B t ty e i z size bytes ht hi hz hsize hby hzs hsz v n xs hown ad m c news hl hcells h1 h63 hbytes hB
    obtain ⟨A', c', rfl, hc, hm, hsee⟩ := Seen.of_own hown'
    exact ⟨A', c', w', hrun, hown', (Below.refl _ _).grown hg hB (fun k hk => (hown.lt k hk).1), hc, hm, hsee⟩

theorem wpList_append_seen {ops : Array Oper} {rest : List Oper} {o : Oper} {a : Act} {Q : Exit → Act → World → Prop} (hgd : o.guard = none) (s x : Operand) (t : TypeId)
    (ho : o.op = .call { callee := .builtin .append, args := #[s, x], argTypes := #[t, t] })
    (B : Nat) (e : TypeId) (i : TypeInfo) (z : Value) (size bytes : Nat) (ht : P.underlying t = some (.slice e)) (hi : P.info? e = some i) (hz : i.zero = some z)
    (hsize : i.size = size) (hby : i.bytes = bytes) (hzs : z.cells.size = size) (hsz : 0 < size) (v : Value) (n : Nat) (xs : List Value) (hv : a.eval s = v) (hown : w.ownsRow B e size v n xs)
    (B' : Nat) (A : Option Addr) (m c : Nat) (news : List Value) (hx : a.eval x = .slice A m c) (hl : news.length = m * size) (hs : Seen w B' A news) (h1 : ∀ u ∈ news, u.oneCell' = true)
    (h63 : n + m ≤ maxLen) (hbytes : (n + m) * bytes ≤ 140737488355328) (hB : B ≤ w.heap.size)
    (h : ∀ A' c' w', w'.ownsRow B e size (.slice A' (n + m) c') (n + m) (xs ++ news) → Below B w w' → n + m ≤ c' → c' ≤ maxLen → Seen w' w'.heap.size A' (xs ++ news) →
      wpList P ops Q rest (a.put o.dst (.slice A' (n + m) c')) w') : wpList P ops Q (o :: rest) a w := by
  refine wpList_plain hgd fun K hK => ?_
  obtain ⟨A', c', w', hr, h2, h3, h4, h5, h6⟩ := run_append_seen (P := P) w B t o.type e i z size bytes ht hi hz hsize hby hzs hsz v n xs hown B' A m c news hl hs h1 h63 hbytes hB
  unfold Oper.wp execOp
  simp only [ho, resolve, invoke, builtin, Sem.run_bind, Sem.run_pure, Result.andThen_ok, List.map_toArray, List.map_cons, List.map_nil, hv, hx, hr]
  exact hK _ _ (h A' c' w' h2 h3 h4 h5 h6)
end

end Go.Proofs.Ytnobgbndgjfiaaa
