/- The plain laws on the sum of bytes: what the two numbers are behind bytes, behind two rows of bytes, behind one byte turned, two bytes swapped. No program in sight. -/
namespace Go.Proofs.Ytnobgbndgjfiaaa.SumPure

/-- the sum of the numbers, and the sum of each number times how many stand from it on. -/
def S : List Nat → Nat
  | [] => 0
  | c :: l => c + S l
def T : List Nat → Nat
  | [] => 0
  | c :: l => (l.length + 1) * c + T l

def P : Nat := 65521

/-- the two numbers behind bytes, without remainders -/
def lo (a : Nat) (l : List Nat) : Nat := a + S l
def hi (a b : Nat) (l : List Nat) : Nat := b + l.length * a + T l

theorem S_append (l m : List Nat) : S (l ++ m) = S l + S m := by
  induction l with
  | nil => simp [S]
  | cons c l ih => simp only [List.cons_append, S, ih]; omega

theorem T_append (l m : List Nat) : T (l ++ m) = T l + m.length * S l + T m := by
  induction l with
  | nil => simp [S, T]
  | cons c l ih =>
    simp only [List.cons_append, S, T, ih, List.length_append]
    rw [Nat.mul_add, Nat.add_mul, Nat.add_mul, Nat.add_mul]
    omega

theorem lo_append (a : Nat) (l m : List Nat) : lo a (l ++ m) = lo (lo a l) m := by
  unfold lo; rw [S_append]; omega

theorem hi_append (a b : Nat) (l m : List Nat) : hi a b (l ++ m) = hi (lo a l) (hi a b l) m := by
  unfold hi lo; rw [T_append, List.length_append, Nat.add_mul, Nat.mul_add]; omega

theorem lo_mod (a : Nat) (l : List Nat) : lo (a % P) l % P = lo a l % P := by
  unfold lo; rw [Nat.add_mod, Nat.mod_mod, ← Nat.add_mod]

theorem hi_mod (a b : Nat) (l : List Nat) : hi (a % P) (b % P) l % P = hi a b l % P := by
  unfold hi
  have h1 : (l.length * (a % P)) % P = (l.length * a) % P := by
    rw [Nat.mul_mod, Nat.mod_mod, ← Nat.mul_mod]
  have h2 : (b % P + l.length * (a % P)) % P = (b + l.length * a) % P := by
    rw [Nat.add_mod, Nat.mod_mod, h1, ← Nat.add_mod]
  rw [Nat.add_mod, h2, ← Nat.add_mod]

/-- the sum of bytes -/
def low (l : List Nat) : Nat := lo 1 l % P
def high (l : List Nat) : Nat := hi 1 0 l % P
def sum (l : List Nat) : Nat := high l * 65536 + low l

theorem low_lt (l : List Nat) : low l < P := Nat.mod_lt _ (by decide)
theorem high_lt (l : List Nat) : high l < P := Nat.mod_lt _ (by decide)

theorem sum_inj {l m : List Nat} : sum l = sum m ↔ low l = low m ∧ high l = high m := by
  have h1 := low_lt l; have h2 := low_lt m
  unfold sum P at *; omega

theorem lo_low (l m : List Nat) : lo (low l) m % P = low (l ++ m) := by
  unfold low; rw [lo_mod, lo_append]
theorem hi_high (l m : List Nat) : hi (low l) (high l) m % P = high (l ++ m) := by
  unfold low high; rw [hi_mod, hi_append]

/-- what Join does -/
def joinLow (a b : Nat) : Nat := ((a + 65520) % P + b) % P
def joinHigh (a h g n : Nat) : Nat := (h + g + ((a + 65520) % P) * (n % P) % P) % P

theorem S_mod (l : List Nat) : (low l + 65520) % P = S l % P := by
  unfold low lo P; omega

theorem joinLow_eq (l m : List Nat) : joinLow (low l) (low m) = low (l ++ m) := by
  unfold joinLow; rw [S_mod]; unfold low lo; rw [S_append]; unfold P; omega

theorem joinHigh_eq (l m : List Nat) : joinHigh (low l) (high l) (high m) m.length = high (l ++ m) := by
  unfold joinHigh; rw [S_mod, ← Nat.mul_mod]
  unfold high hi; rw [T_append, List.length_append, Nat.mul_comm (S l)]
  generalize m.length * S l = x
  unfold P; omega

theorem low_ne {l m : List Nat} {p q : Nat} (h : S l + q = S m + p) (hne : p ≠ q) (hp : p < P) (hq : q < P) : low l ≠ low m := by
  unfold low lo P at *; omega
theorem high_ne {l m : List Nat} {p q : Nat} (hlen : l.length = m.length) (h : T l + q = T m + p) (hne : p ≠ q) (hp : p < P) (hq : q < P) : high l ≠ high m := by
  unfold high hi P at *; rw [hlen]; omega

theorem S_set (l : List Nat) (i c : Nat) (h : i < l.length) : S (l.set i c) + l[i] = S l + c := by
  induction l generalizing i with
  | nil => simp at h
  | cons d l ih =>
    cases i with
    | zero => simp [S]; omega
    | succ i => simp only [List.set_cons_succ, S, List.getElem_cons_succ]; have := ih i (by simpa using h); omega

theorem T_swap (l : List Nat) (i : Nat) (h : i + 1 < l.length) : T ((l.set i l[i+1]).set (i+1) l[i]) + l[i] = T l + l[i+1] := by
  induction l generalizing i with
  | nil => simp at h
  | cons d l ih =>
    cases i with
    | zero =>
      cases l with
      | nil => simp at h
      | cons e l => 
        simp only [List.set_cons_zero, List.set_cons_succ, T, List.getElem_cons_zero, List.getElem_cons_succ, List.length_cons, Nat.add_mul]; omega
    | succ i =>
      have := ih i (by simpa using h)
      simp only [List.set_cons_succ, T, List.getElem_cons_succ, List.length_set]; omega

theorem S_le {l : List Nat} (h : ∀ b ∈ l, b < 256) : S l ≤ 255 * l.length := by
  induction l with
  | nil => simp [S]
  | cons c l ih =>
    have := ih fun b hb => h b (List.mem_cons_of_mem _ hb)
    have := h c List.mem_cons_self
    simp only [S, List.length_cons]; omega
theorem T_le {l : List Nat} (h : ∀ b ∈ l, b < 256) : 2 * T l ≤ 255 * (l.length * (l.length + 1)) := by
  induction l with
  | nil => simp [T]
  | cons c l ih =>
    have h1 := ih fun b hb => h b (List.mem_cons_of_mem _ hb)
    have h2 : (l.length + 1) * c ≤ (l.length + 1) * 255 := Nat.mul_le_mul_left _ (by have := h c List.mem_cons_self; omega)
    have h3 : (l.length + 1) * (l.length + 1 + 1) = l.length * (l.length + 1) + 2 * (l.length + 1) := by
      rw [Nat.mul_comm, ← Nat.add_mul]
    simp only [T, List.length_cons]
    rw [h3]
    generalize l.length * (l.length + 1) = y at h1 ⊢
    generalize (l.length + 1) * c = z at h2 ⊢
    omega

/-- What a run of bytes comes to fits into 32 bits. -/
theorem run_fits {l : List Nat} (h : ∀ b ∈ l, b < 256) (hn : l.length ≤ 5000) {a b : Nat} (ha : a < 65536) (hb : b < 65536) : lo a l < 4294967296 ∧ hi a b l < 4294967296 := by
  have h1 := S_le h
  have h2 := T_le h
  have h3 : l.length * (l.length + 1) ≤ 5000 * 5001 := Nat.mul_le_mul hn (by omega)
  have h4 : l.length * a ≤ 5000 * 65535 := Nat.mul_le_mul hn (by omega)
  unfold lo hi
  omega

end Go.Proofs.Ytnobgbndgjfiaaa.SumPure
