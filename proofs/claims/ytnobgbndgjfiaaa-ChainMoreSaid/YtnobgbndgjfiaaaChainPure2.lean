/- More plain laws on chains: two lists in which each Seq's first hit is the same head have chains of the same heads; a list that is turned; the links alone; a head left out; more heads behind. No program in sight. -/
import Derived.Test.YtnobgbndgjfiaaaChainPure
namespace Go.Proofs.Ytnobgbndgjfiaaa.ChainPure

theorem find_of_idx {p : Hd → Bool} : ∀ {l : List Hd} {i : Nat}, l.findIdx? p = some i → l.find? p = l[i]?
  | [], _, h => by simp at h
  | x :: l, i, h => by
    rw [List.findIdx?_cons] at h
    by_cases hx : p x = true
    · rw [if_pos hx] at h
      injection h with h
      subst h
      simp [hx]
    · rw [if_neg hx] at h
      cases hr : l.findIdx? p with
      | none => rw [hr] at h; simp at h
      | some j =>
        rw [hr] at h
        simp at h
        subst h
        simp [hx, find_of_idx hr]
theorem find_none {p : Hd → Bool} {l : List Hd} : l.findIdx? p = none ↔ l.find? p = none := by
  rw [List.findIdx?_eq_none_iff, List.find?_eq_none]
  simp

/-- One first hit, one chain. -/
theorem ch_match {s : Nat} {l m : List Hd} (h : ∀ t, l.find? (ishit s t) = m.find? (ishit s t)) : ∀ (f q : Nat), (ch s l f q).length = (ch s m f q).length ∧
    ∀ k i j : Nat, (ch s l f q)[k]? = some i → (ch s m f q)[k]? = some j → l[i]? = m[j]?
  | 0, _ => by simp [ch]
  | f + 1, q => by
    cases hl : l.findIdx? (ishit s (q + 1)) with
    | none =>
      have hm : m.findIdx? (ishit s (q + 1)) = none := by rw [find_none, ← h, ← find_none, hl]
      rw [ch_none hl, ch_none hm]
      simp
    | some i =>
      cases hm : m.findIdx? (ishit s (q + 1)) with
      | none => rw [find_none.2 (by rw [h]; exact find_none.1 hm)] at hl; cases hl
      | some j =>
        rw [ch_some hl, ch_some hm]
        obtain ⟨h1, h2⟩ := ch_match h f (q + 1)
        refine ⟨by simp [h1], fun k a b ha hb => ?_⟩
        cases k with
        | zero =>
          simp at ha hb
          subst ha hb
          rw [← find_of_idx hl, ← find_of_idx hm, h]
        | succ k => exact h2 k a b (by simpa using ha) (by simpa using hb)

theorem chain_match {s q : Nat} {l m : List Hd} (h : ∀ t, l.find? (ishit s t) = m.find? (ishit s t)) : (chain s q l).length = (chain s q m).length ∧
    ∀ k i j : Nat, (chain s q l)[k]? = some i → (chain s q m)[k]? = some j → l[i]? = m[j]? := by
  unfold chain
  exact ch_match h _ _

/-- What a chain's length hangs on. -/
theorem ch_length_congr {s : Nat} {l m : List Hd} : ∀ {f q : Nat}, (∀ t, q < t → l.any (ishit s t) = m.any (ishit s t)) → (ch s l f q).length = (ch s m f q).length
  | 0, _, _ => by simp [ch]
  | f + 1, q, h => by
    have h1 := h (q + 1) (by omega)
    have key : ∀ (r : List Hd), r.any (ishit s (q + 1)) = (r.findIdx? (ishit s (q + 1))).isSome := fun r => by
      cases hr : r.findIdx? (ishit s (q + 1)) with
      | none =>
        rw [List.findIdx?_eq_none_iff] at hr
        simp only [Option.isSome_none, List.any_eq_false]
        exact fun x hx => by rw [hr x hx]; simp
      | some i =>
        obtain ⟨hi, hp, _⟩ := List.findIdx?_eq_some_iff_getElem.1 hr
        simp only [Option.isSome_some, List.any_eq_true]
        exact ⟨_, List.getElem_mem hi, hp⟩
    rw [key, key] at h1
    cases hl : l.findIdx? (ishit s (q + 1)) with
    | none =>
      rw [hl] at h1
      cases hm : m.findIdx? (ishit s (q + 1)) with
      | none => rw [ch_none hl, ch_none hm]
      | some j => rw [hm] at h1; cases h1
    | some i =>
      rw [hl] at h1
      cases hm : m.findIdx? (ishit s (q + 1)) with
      | none => rw [hm] at h1; cases h1
      | some j =>
        rw [ch_some hl, ch_some hm]
        simp only [List.length_cons]
        rw [ch_length_congr (f := f) (q := q + 1) fun t ht => h t (by omega)]

/-- .. and where it ends. -/
theorem ch_length_cut {s : Nat} {l m : List Hd} {o : Nat} : ∀ {f q : Nat}, o < (ch s l f q).length → (∀ t, q < t → t ≠ q + 1 + o → l.any (ishit s t) = m.any (ishit s t)) → m.any (ishit s (q + 1 + o)) = false →
    (ch s m f q).length = o := by
  induction o with
  | zero =>
    intro f q _ _ h3
    rw [ch_none]
    · rfl
    · rw [List.findIdx?_eq_none_iff]
      simpa using h3
  | succ o ih =>
    intro f q h1 h2 h3
    cases f with
    | zero => simp [ch] at h1
    | succ f =>
      cases hl : l.findIdx? (ishit s (q + 1)) with
      | none => rw [ch_none hl] at h1; simp at h1
      | some i =>
        obtain ⟨hi, hp, _⟩ := List.findIdx?_eq_some_iff_getElem.1 hl
        have ha : l.any (ishit s (q + 1)) = true := List.any_eq_true.2 ⟨_, List.getElem_mem hi, hp⟩
        rw [h2 (q + 1) (by omega) (by omega)] at ha
        cases hm : m.findIdx? (ishit s (q + 1)) with
        | none =>
          rw [List.findIdx?_eq_none_iff] at hm
          obtain ⟨x, hx, hx'⟩ := List.any_eq_true.1 ha
          rw [hm x hx] at hx'
          cases hx'
        | some j =>
          rw [ch_some hl] at h1
          rw [ch_some hm]
          simp only [List.length_cons] at h1 ⊢
          rw [ih (f := f) (q := q + 1) (by omega) (fun t ht hne => h2 t (by omega) (by omega)) (by rwa [show q + 1 + 1 + o = q + 1 + (o + 1) by omega])]

/-- The links alone. -/
theorem find_links (s t : Nat) (l : List Hd) : (l.filter (islink s)).find? (ishit s t) = l.find? (ishit s t) := by
  rw [List.find?_filter]
  congr 1
  funext x
  rw [Bool.eq_iff_iff]
  simp only [ishit, decide_eq_true_eq, Bool.and_eq_true]
  exact ⟨fun h => h.2, fun h => ⟨h.1, h⟩⟩

/-- A list that is turned. -/
theorem find_unique {s t : Nat} : ∀ {l : List Hd}, l.Pairwise (fun a b => a.seq ≠ b.seq) → ∀ {x : Hd}, x ∈ l → ishit s t x = true → l.find? (ishit s t) = some x
  | [], _, _, h, _ => by simp at h
  | y :: l, hp, x, h, hx => by
    rw [List.pairwise_cons] at hp
    rcases List.mem_cons.1 h with rfl | h
    · simp [hx]
    · have hy : ishit s t y = false := by
        rw [Bool.eq_false_iff]
        intro hy
        exact hp.1 x h ((ishit_iff.1 hy).2.trans (ishit_iff.1 hx).2.symm)
      rw [List.find?_cons_of_neg (by simp [hy])]
      exact find_unique hp.2 h hx
theorem find_turn {s t : Nat} {l : List Hd} (hp : l.Pairwise (fun a b => a.seq ≠ b.seq)) (n : Nat) : (l.drop n ++ l.take n).find? (ishit s t) = l.find? (ishit s t) := by
  have hp' : (l.drop n ++ l.take n).Pairwise (fun a b => a.seq ≠ b.seq) := by
    rw [← List.take_append_drop n l] at hp
    rw [List.pairwise_append] at hp ⊢
    exact ⟨hp.2.1, hp.1, fun a ha b hb => (hp.2.2 b hb a ha).symm⟩
  have hmem : ∀ x, x ∈ l.drop n ++ l.take n ↔ x ∈ l := fun x => by
    rw [List.mem_append, or_comm, ← List.mem_append, List.take_append_drop]
  cases hl : l.find? (ishit s t) with
  | none =>
    rw [List.find?_eq_none] at hl ⊢
    exact fun x hx => hl x ((hmem x).1 hx)
  | some x =>
    have h1 := List.mem_of_find?_eq_some hl
    have h2 := List.find?_some hl
    exact find_unique hp' ((hmem x).2 h1) h2

/-- More heads behind. -/
theorem chain_prefix {s q : Nat} (l m : List Hd) : (chain s q l).length ≤ (chain s q (l ++ m)).length ∧ (chain s q (l ++ m)).take (chain s q l).length = chain s q l := by
  have main : ∀ (f q : Nat), ∃ r, ch s (l ++ m) f q = ch s l f q ++ r := by
    intro f
    induction f with
    | zero => intro q; exact ⟨[], rfl⟩
    | succ f ih =>
      intro q
      cases hl : l.findIdx? (ishit s (q + 1)) with
      | none => rw [ch_none hl]; exact ⟨_, rfl⟩
      | some i =>
        have : (l ++ m).findIdx? (ishit s (q + 1)) = some i := by rw [List.findIdx?_append, hl]; rfl
        obtain ⟨r, hr⟩ := ih (q + 1)
        rw [ch_some hl, ch_some this, hr]
        exact ⟨r, rfl⟩
  obtain ⟨r, hr⟩ := main (last - q) q
  unfold chain
  rw [hr]
  simp

end Go.Proofs.Ytnobgbndgjfiaaa.ChainPure
