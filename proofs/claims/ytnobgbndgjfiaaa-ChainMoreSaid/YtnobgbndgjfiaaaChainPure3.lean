/- Plain laws on a chain out of whose list one link is left: it ends there, if no other head has its Seq; else it is as long as ever. No program in sight. -/
import Derived.Test.YtnobgbndgjfiaaaChainPure2
namespace Go.Proofs.Ytnobgbndgjfiaaa.ChainPure

theorem left_any {s q p w : Nat} {l : List Hd} (hw : l.findIdx? (ishit s (q + 1 + p)) = some w) {t : Nat} (ht : t ≠ q + 1 + p) : l.any (ishit s t) = (l.eraseIdx w).any (ishit s t) := by
  obtain ⟨hwl, hp, _⟩ := List.findIdx?_eq_some_iff_getElem.1 hw
  have hno : ishit s t l[w] = false := by
    rw [Bool.eq_false_iff]
    intro h
    exact ht ((ishit_iff.1 h).2.symm.trans (ishit_iff.1 hp).2)
  rw [List.eraseIdx_eq_take_drop_succ]
  conv => lhs; rw [← List.take_append_drop w l, List.drop_eq_getElem_cons hwl]
  rw [List.any_append, List.any_cons, List.any_append, hno, Bool.false_or]

/-- A head left out, another one with its Seq: as long as ever. -/
theorem left_same {s q p w : Nat} {l : List Hd} (hw : l.findIdx? (ishit s (q + 1 + p)) = some w) (h : 0 < (l.eraseIdx w).countP (ishit s (q + 1 + p))) : (chain s q (l.eraseIdx w)).length = (chain s q l).length := by
  unfold chain
  refine (ch_length_congr fun t _ => ?_).symm
  by_cases ht : t = q + 1 + p
  · subst ht
    obtain ⟨hwl, hp, _⟩ := List.findIdx?_eq_some_iff_getElem.1 hw
    rw [List.any_eq_true.2 ⟨_, List.getElem_mem hwl, hp⟩]
    obtain ⟨x, hx, hx'⟩ := List.countP_pos_iff.1 h
    rw [List.any_eq_true.2 ⟨x, hx, hx'⟩]
  · exact left_any hw ht
/-- .. no other one: it ends there. -/
theorem left_cut {s q p w : Nat} {l : List Hd} (hp : p < (chain s q l).length) (hw : l.findIdx? (ishit s (q + 1 + p)) = some w) (h : (l.eraseIdx w).countP (ishit s (q + 1 + p)) = 0) : (chain s q (l.eraseIdx w)).length = p := by
  unfold chain at *
  refine ch_length_cut hp (fun t _ ht => left_any hw ht) ?_
  rw [List.any_eq_false]
  intro x hx
  have := List.countP_eq_zero.1 h x hx
  simpa using this

theorem erase_at (l : List Hd) (w : Nat) (h : w < l.length) : (l.take (w + 1)).eraseIdx w = (l.take w).eraseIdx w := by
  have e : (l.take w).length = w := by rw [List.length_take]; omega
  rw [List.take_succ_eq_append_getElem h, List.eraseIdx_append_of_length_le (by omega), e, Nat.sub_self, List.eraseIdx_of_length_le (l := l.take w) (by omega)]
  simp
theorem erase_step (l : List Hd) (w k : Nat) (h : k < l.length) (hne : k ≠ w) : (l.take (k + 1)).eraseIdx w = (l.take k).eraseIdx w ++ [l[k]] := by
  have e : (l.take k).length = k := by rw [List.length_take]; omega
  rw [List.take_succ_eq_append_getElem h]
  rcases Nat.lt_or_ge w k with hwk | hwk
  · rw [List.eraseIdx_append_of_lt_length (by omega)]
  · rw [List.eraseIdx_of_length_le (by simp; omega), List.eraseIdx_of_length_le (by omega)]

theorem filter_step (p : Hd → Bool) (l : List Hd) (k : Nat) (h : k < l.length) : (l.take (k + 1)).filter p = (l.take k).filter p ++ if p l[k] then [l[k]] else [] := by
  rw [List.take_succ_eq_append_getElem h, List.filter_append]
  congr 1
  by_cases hp : p l[k] <;> simp [hp]

end Go.Proofs.Ytnobgbndgjfiaaa.ChainPure
