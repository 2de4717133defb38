/- The plain laws on chains of heads: what a chain is, that it begins with that of fewer heads, that it is no longer than the list, that other heads change nothing but places. No program in sight. -/
namespace Go.Proofs.Ytnobgbndgjfiaaa.ChainPure

structure Hd where
  kind : Nat
  session : Nat
  id : Nat
  seq : Nat
  deriving DecidableEq, Inhabited

def Hd.ok (h : Hd) : Prop := h.kind < 256 ∧ h.session < 4294967296 ∧ h.id < 4294967296 ∧ h.seq < 4294967296

/-- Is a head a link of session s? -/
def islink (s : Nat) (h : Hd) : Bool := (h.kind == 1 || h.kind == 2) && h.session == s
/-- .. and the one of Seq q? -/
def ishit (s q : Nat) (h : Hd) : Bool := islink s h && h.seq == q

/-- The places of the chain behind Seq q, of at most f links. -/
def ch (s : Nat) (l : List Hd) : Nat → Nat → List Nat
  | 0, _ => []
  | f + 1, q => match l.findIdx? (ishit s (q + 1)) with
    | none => []
    | some i => i :: ch s l f (q + 1)

/-- The greatest Seq. -/
def last : Nat := 4294967295
def chain (s q : Nat) (l : List Hd) : List Nat := ch s l (last - q) q

theorem ishit_iff {s q : Nat} {h : Hd} : ishit s q h = true ↔ islink s h = true ∧ h.seq = q := by
  simp [ishit]

theorem ch_none {s : Nat} {l : List Hd} {f q : Nat} (h : l.findIdx? (ishit s (q + 1)) = none) : ch s l f q = [] := by
  cases f with
  | zero => rfl
  | succ f => simp [ch, h]
theorem ch_some {s : Nat} {l : List Hd} {f q i : Nat} (h : l.findIdx? (ishit s (q + 1)) = some i) : ch s l (f + 1) q = i :: ch s l f (q + 1) := by
  simp [ch, h]

/-- The links of a chain, one by one. -/
theorem ch_at {s : Nat} {l : List Hd} : ∀ {f q k i : Nat}, (ch s l f q)[k]? = some i → l.findIdx? (ishit s (q + 1 + k)) = some i
  | 0, _, _, _, h => by simp [ch] at h
  | f + 1, q, k, i, h => by
    cases hf : l.findIdx? (ishit s (q + 1)) with
    | none => rw [ch_none hf] at h; simp at h
    | some j =>
      rw [ch_some hf] at h
      cases k with
      | zero => simp at h; subst h; simpa using hf
      | succ k =>
        rw [List.getElem?_cons_succ] at h
        have := ch_at h
        rwa [show q + 1 + (k + 1) = q + 1 + 1 + k by omega]

/-- Behind the last link there is none, where the bound has not ended it. -/
theorem ch_end {s : Nat} {l : List Hd} : ∀ {f q : Nat}, (ch s l f q).length < f → l.findIdx? (ishit s (q + 1 + (ch s l f q).length)) = none
  | 0, _, h => by simp at h
  | f + 1, q, h => by
    cases hf : l.findIdx? (ishit s (q + 1)) with
    | none => rw [ch_none hf]; simpa using hf
    | some j =>
      rw [ch_some hf] at h ⊢
      simp only [List.length_cons] at h ⊢
      have := ch_end (s := s) (l := l) (f := f) (q := q + 1) (by omega)
      rwa [show q + 1 + ((ch s l f (q + 1)).length + 1) = q + 1 + 1 + (ch s l f (q + 1)).length by omega]

theorem ch_le {s : Nat} {l : List Hd} : ∀ (f q : Nat), (ch s l f q).length ≤ f
  | 0, _ => by simp [ch]
  | f + 1, q => by
    cases hf : l.findIdx? (ishit s (q + 1)) with
    | none => rw [ch_none hf]; simp
    | some j => rw [ch_some hf]; simp only [List.length_cons]; have := ch_le (s := s) (l := l) f (q + 1); omega

/-- A list of places that is as this one, one by one, is this one. -/
theorem ch_unique {s : Nat} {l : List Hd} : ∀ {f q : Nat} {r : List Nat}, r.length ≤ f → (∀ k i, r[k]? = some i → l.findIdx? (ishit s (q + 1 + k)) = some i) →
    (r.length < f → l.findIdx? (ishit s (q + 1 + r.length)) = none) → r = ch s l f q
  | 0, q, r, h, _, _ => by simp [ch]; exact List.eq_nil_of_length_eq_zero (by omega)
  | f + 1, q, [], _, _, h3 => by rw [ch_none (by simpa using h3 (by simp))]
  | f + 1, q, i :: r, h1, h2, h3 => by
    have hi := h2 0 i rfl
    rw [Nat.add_zero] at hi
    rw [ch_some hi]
    congr 1
    refine ch_unique (by simpa using h1) (fun k j hk => ?_) (fun hl => ?_)
    · have := h2 (k + 1) j (by simpa using hk)
      rwa [show q + 1 + 1 + k = q + 1 + (k + 1) by omega]
    · have := h3 (by simp; omega)
      simp only [List.length_cons] at this
      rwa [show q + 1 + 1 + r.length = q + 1 + (r.length + 1) by omega]

/-- How many links have a Seq above q. -/
def above (s : Nat) (l : List Hd) (q : Nat) : Nat := (l.filter fun h => islink s h && decide (q < h.seq)).length
theorem above_step {s q : Nat} {l : List Hd} {i : Nat} (h : l.findIdx? (ishit s (q + 1)) = some i) : above s l (q + 1) + 1 ≤ above s l q := by
  induction l generalizing i with
  | nil => simp at h
  | cons x l ih =>
    unfold above at ih ⊢
    rw [List.findIdx?_cons] at h
    have mono : (l.filter fun h => islink s h && decide (q + 1 < h.seq)).length ≤ (l.filter fun h => islink s h && decide (q < h.seq)).length := by
      rw [← List.countP_eq_length_filter, ← List.countP_eq_length_filter]
      refine List.countP_mono_left fun y _ hy => ?_
      simp at hy ⊢
      exact ⟨hy.1, by omega⟩
    by_cases hx : ishit s (q + 1) x = true
    · obtain ⟨h1, h2⟩ := ishit_iff.1 hx
      rw [List.filter_cons, List.filter_cons]
      rw [if_neg (by simp [h2]), if_pos (by simp [h1, h2])]
      simp only [List.length_cons]; omega
    · rw [if_neg hx] at h
      cases hr : l.findIdx? (ishit s (q + 1)) with
      | none => rw [hr] at h; simp at h
      | some j =>
        have := ih hr
        rw [List.filter_cons, List.filter_cons]
        split
        · rename_i h1
          rw [if_pos (by simp at h1 ⊢; exact ⟨h1.1, by omega⟩)]
          simp only [List.length_cons]; omega
        · split
          · simp only [List.length_cons]; omega
          · exact this

/-- A chain is no longer than the list. -/
theorem ch_above {s : Nat} {l : List Hd} : ∀ (f q : Nat), (ch s l f q).length ≤ above s l q
  | 0, _ => by simp [ch]
  | f + 1, q => by
    cases hf : l.findIdx? (ishit s (q + 1)) with
    | none => rw [ch_none hf]; simp
    | some j => rw [ch_some hf]; simp only [List.length_cons]; have := ch_above (s := s) (l := l) f (q + 1); have := above_step hf; omega
theorem ch_length {s : Nat} {l : List Hd} (f q : Nat) : (ch s l f q).length ≤ l.length :=
  Nat.le_trans (ch_above f q) (List.length_filter_le _ _)

/-- Bounds of which either is enough give one chain. -/
theorem ch_min {s : Nat} {l : List Hd} (f q : Nat) : ch s l (min l.length f) q = ch s l f q := by
  refine ch_unique ?_ (fun k i h => ch_at h) ?_
  · exact Nat.le_trans (ch_le _ _) (Nat.min_le_right _ _)
  · intro h
    by_cases h' : (ch s l (min l.length f) q).length < min l.length f
    · exact ch_end h'
    · have h1 := ch_le (s := s) (l := l) (min l.length f) q
      have h2 : (ch s l (min l.length f) q).length = l.length := by omega
      cases hf : l.findIdx? (ishit s (q + 1 + (ch s l (min l.length f) q).length)) with
      | none => rfl
      | some i =>
        have := ch_unique (s := s) (l := l) (q := q) (f := l.length + 1) (r := ch s l (min l.length f) q ++ [i]) (by simp [h2]) (fun k j hk => by
          rcases Nat.lt_trichotomy k (ch s l (min l.length f) q).length with h | h | h
          · rw [List.getElem?_append_left h] at hk
            exact ch_at hk
          · subst h
            rw [List.getElem?_append_right (Nat.le_refl _)] at hk
            simp at hk
            rw [hf, hk]
          · rw [List.getElem?_append_right (by omega)] at hk
            rw [List.getElem?_eq_none (by simp; omega)] at hk
            cases hk) (fun h => by simp [h2] at h)
        have h4 := ch_length (s := s) (l := l) (l.length + 1) q
        rw [← this] at h4
        simp [h2] at h4
        omega

end Go.Proofs.Ytnobgbndgjfiaaa.ChainPure
