/- The law SumChanged returns true and leaves all memory that was there as it was: for every slice of bytes, every int and every byte. -/
import Derived.Test.YtnobgbndgjfiaaaSumPartsWalk
import Derived.BigRegion
import Derived.OpenShut
namespace Go.Proofs.Ytnobgbndgjfiaaa
open Go.RowKit

theorem bytesV_set (l : List Nat) (p b : Nat) : bytesV (l.set p b) = (bytesV l).set p (.int .u8 (b : Int)) := by simp [bytesV, List.map_set]

theorem sum_eq_of_beq {l m : List Nat} {β : Bool} (h : (β = true → l = m) ∧ (β = false → SumPure.sum l ≠ SumPure.sum m)) : (((SumPure.sum l : Nat) : Int) == ((SumPure.sum m : Nat) : Int)) = β := by
  cases β with
  | true => rw [h.1 rfl]; simp
  | false => have := h.2 rfl; simp; omega

theorem set_beq (l : List Nat) (p b : Nat) (hp : p < l.length) (hby : ∀ x ∈ l, x < 256) (hb : b < 256) :
    (((SumPure.sum (l.set p b) : Nat) : Int) == ((SumPure.sum l : Nat) : Int)) = ((b : Int) == ((l[p] : Nat) : Int)) := by
  have hx := hby _ (List.getElem_mem hp)
  refine sum_eq_of_beq ⟨fun h => ?_, fun h => ?_⟩
  · have : b = l[p] := by simpa [Int.ofNat_inj] using h
    rw [this, List.set_getElem_self]
  · have : b ≠ l[p] := by simpa [Int.ofNat_inj] using h
    rw [Ne, SumPure.sum_inj]
    intro ⟨e, _⟩
    exact SumPure.low_ne (p := b) (q := l[p]) (SumPure.S_set l p b hp) this (by unfold SumPure.P; omega) (by unfold SumPure.P; omega) e

theorem swap_beq (l : List Nat) (p : Nat) (hp : p + 1 < l.length) (hby : ∀ x ∈ l, x < 256) :
    (((SumPure.sum ((l.set p l[p+1]).set (p + 1) l[p]) : Nat) : Int) == ((SumPure.sum l : Nat) : Int)) = (((l[p] : Nat) : Int) == ((l[p+1] : Nat) : Int)) := by
  have hx := hby _ (List.getElem_mem (show p < l.length by omega))
  have hy := hby _ (List.getElem_mem hp)
  refine sum_eq_of_beq ⟨fun h => ?_, fun h => ?_⟩
  · have : l[p] = l[p+1] := by simpa [Int.ofNat_inj] using h
    rw [← this, List.set_getElem_self, this, List.set_getElem_self]
  · have : l[p] ≠ l[p+1] := by simpa [Int.ofNat_inj] using h
    rw [Ne, SumPure.sum_inj]
    intro ⟨_, e⟩
    exact SumPure.high_ne (p := l[p+1]) (q := l[p]) (by simp) (SumPure.T_swap l p hp) (Ne.symm this) (by unfold SumPure.P; omega) (by unfold SumPure.P; omega) e

/-- Byte p of a slice that is seen. -/
theorem Seen.byte {w : World} {B : Nat} {b off : Nat} {l : List Nat} (h : Seen w B (some ⟨b, off, none⟩) (bytesV l)) {p : Nat} (hp : p < l.length) : w.cell? ⟨b, off + p, none⟩ = some (.int .u8 ((l[p] : Nat) : Int)) := by
  obtain ⟨ad, e, _, hc⟩ := h p _ (bytesV_at hp)
  injection e with e
  subst e
  rwa [Addr.add_lit] at hc
theorem Seen.plain {w : World} {B : Nat} {A : Option Addr} {u : Value} {r : List Value} (h : Seen w B A (u :: r)) : ∃ b off, A = some ⟨b, off, none⟩ ∧ b < B := by
  obtain ⟨⟨b, off, spot⟩, rfl, hb, hc⟩ := h 0 u rfl
  rw [Addr.add_zero'] at hc
  have : spot = none := by simpa using World.cell?_spot hc
  subst this
  exact ⟨b, off, rfl, hb⟩

/-- A row of the call's own that is not empty lies at the head of a block. -/
theorem own_head {w : World} {B : Nat} {e : TypeId} {n c : Nat} {A : Option Addr} {xs : List Value} (h : w.ownsRow B e 1 (.slice A n c) n xs) (hn : 0 < n) : ∃ g, A = some ⟨g, 0, none⟩ ∧ B ≤ g ∧ g < w.heap.size := by
  have h' := h
  obtain ⟨_, ⟨_, h0⟩ | ⟨g, cap, cur, h0, hg, _⟩⟩ := h
  · omega
  · injection h0 with e
    subst e
    exact ⟨g, rfl, hg, (h'.lt g rfl).2⟩
theorem own_byte {w : World} {B g n c : Nat} {l : List Nat} (h : w.ownsRow B 5 1 (.slice (some ⟨g, 0, none⟩) n c) n (bytesV l)) {p : Nat} (hp : p < l.length) (hl : l.length = n) : w.cell? ⟨g, p, none⟩ = some (.int .u8 ((l[p] : Nat) : Int)) := by
  rw [h.cellAt p (by omega), bytesV_at hp]

/-- What stays while the sum of a slice is asked for: the slice's bytes, and a cell beside them. -/
def Dd (A : Option Addr) (l : List Nat) (w0 w : World) : Prop := Below w0.heap.size w0 w ∧ Seen w0 w0.heap.size A (bytesV l)
theorem of_beside (A : Option Addr) (l : List Nat) (n c : Nat) (hl : l.length = n) (hc : n ≤ c) (hmax : c ≤ maxLen) (hby : ∀ x ∈ l, x < 256) (w0 W : World) (h : Dd A l w0 W) :
    Calls Try.prog 16 #[.slice A n c] W fun e w' => e = .returned (.int .u32 ((SumPure.sum l : Nat) : Int)) ∧ Dd A l w0 w' :=
  (of_any l A n c hl hc hmax hby W ((h.2.below h.1).more h.1.size)).mono fun _ _ ⟨he, hb⟩ => ⟨he, h.1.trans (hb.mono h.1.size), h.2⟩
theorem of_beside1 (A : Option Addr) (l : List Nat) (n c : Nat) (hl : l.length = n) (hc : n ≤ c) (hmax : c ≤ maxLen) (hby : ∀ x ∈ l, x < 256) (w0 W : World) (a : Addr) (u : Value) (ha : a.block < w0.heap.size) (h : W.cell? a = some u ∧ Dd A l w0 W) :
    Calls Try.prog 16 #[.slice A n c] W fun e w' => e = .returned (.int .u32 ((SumPure.sum l : Nat) : Int)) ∧ w'.cell? a = some u ∧ Dd A l w0 w' :=
  (of_beside A l n c hl hc hmax hby w0 W h.2).mono fun _ _ ⟨he, hd⟩ => ⟨he, ((hd.1.cell ha).trans (h.2.1.cell ha).symm).trans h.1, hd⟩
theorem of_beside2 (A : Option Addr) (l : List Nat) (n c : Nat) (hl : l.length = n) (hc : n ≤ c) (hmax : c ≤ maxLen) (hby : ∀ x ∈ l, x < 256) (w0 W : World) (a b : Addr) (u v : Value) (ha : a.block < w0.heap.size) (hb : b.block < w0.heap.size)
    (h : W.cell? a = some u ∧ W.cell? b = some v ∧ Dd A l w0 W) :
    Calls Try.prog 16 #[.slice A n c] W fun e w' => e = .returned (.int .u32 ((SumPure.sum l : Nat) : Int)) ∧ w'.cell? a = some u ∧ w'.cell? b = some v ∧ Dd A l w0 w' :=
  (of_beside A l n c hl hc hmax hby w0 W h.2.2).mono fun _ _ ⟨he, hd⟩ => ⟨he, ((hd.1.cell ha).trans (h.2.2.1.cell ha).symm).trans h.1, ((hd.1.cell hb).trans (h.2.2.1.cell hb).symm).trans h.2.1, hd⟩
theorem Dd.drew {A : Option Addr} {l : List Nat} {w0 w : World} (h : Dd A l w0 w) : Dd A l w0 w.drew := ⟨h.1.drew, h.2⟩

set_option maxHeartbeats 1000000 in
theorem changed_main (l : List Nat) (b off : Nat) (n c : Nat) (hl : Hid (l.length = n)) (hc : n ≤ c) (hmax : c ≤ maxLen) (hby : ∀ x ∈ l, x < 256) (h1 : ¬ (20000 : Int) < (n : Int)) (p : Nat) (hp : p < n) (cc : Nat) (hcc : cc < 256) (w : World)
    (hs : Seen w w.heap.size (some ⟨b, off, none⟩) (bytesV l)) :
    Calls Try.prog 5 #[.slice (some ⟨b, off, none⟩) n c, .int .i64 (p : Int), .int .u8 (cc : Int)] w fun e w' => e = .returned (.bool true) ∧ Below w.heap.size w w' := by
  obtain ⟨i0, hi, hz0, hz1, hz2⟩ := info_parts info5
  have hpl : p < l.length := by rw [hl.out]; exact hp
  have hset := set_beq l p cc hpl hby hcc
  have hp1 : (p : Int) < (n : Int) := by omega
  have hp0 : (0 : Int) ≤ (p : Int) := by omega
  generalize hx : l[p] = x at hset
  have HX := Lib.hid hx
  have HSET := Lib.hid hset
  clear hx hset
  go_enter Try.func5, Try.ntmps5
  go_wp2_with fail
  refine (awake_any _).mono ?_
  rintro e w1 ⟨rfl, hb⟩
  replace hs := (hs.below hb).more hb.size
  go_wp2_with fail
  refine (of_any l _ n c hl.out hc hmax hby _ hs).mono ?_
  rintro e w2 ⟨rfl, hb12⟩
  go_wp2_with (at_builtin; refine wpList_append_seen _ rfl (.tmp 26) (.tmp 27) _ rfl w2.heap.size 5 i0 _ 1 1 Try.underlying22 hi hz0 hz1 hz2 rfl (by omega) _ 0 [] rfl (own_empty w2 w2.heap.size 5 1 (Nat.le_refl _)) w1.heap.size (some ⟨b, off, none⟩) n c (bytesV l) rfl ?h1 ?h2 ?h3 ?h4 ?h5 ?h6 ?_; (case h1 => rw [bytesV_length, hl.out]; omega); (case h2 => exact (hs.below hb12).below (((Below.refl _ _).alloc hb12.size _))); (case h3 => exact bytesV_one l); (case h4 => unfold maxLen; omega); (case h5 => omega); (case h6 => simp); intro A2 c2 w3 own3 hb23 hc2 hm2 hs3; simp only [Nat.zero_add, List.nil_append] at own3 hc2; obtain ⟨g, rfl, hg, hgl⟩ := own_head own3 (by omega); have hcg := own_byte own3 hpl hl.out; have hfg := own3.frozenAt p)
  have own4 := (own3.stored p (.int .u8 (cc : Int))).1
  have hb34 : Below w2.heap.size w3 (w3.setCell ⟨g, p, none⟩ (.int .u8 (cc : Int))) := (Below.refl _ _).setCell hg _
  rw [← bytesV_set] at own4
  clear own3 hcg hfg hs3
  generalize w3.setCell ⟨g, p, none⟩ (.int .u8 (cc : Int)) = w4 at own4 hb34 ⊢
  have hd4 : Dd (some ⟨g, 0, none⟩) (l.set p cc) w4 w4 := ⟨Below.refl _ _, fun j u hj => ⟨_, rfl, (own4.lt g rfl).2, own4.cells rfl j u hj⟩⟩
  have hb24 : Below w2.heap.size w2 w4 := (((Below.refl _ _).alloc (Nat.le_refl _) _).trans hb23).trans hb34
  have hb14 : Below w1.heap.size w1 w4 := hb12.trans (hb24.mono hb12.size)
  have hcx : w4.cell? ⟨b, off + p, none⟩ = some (.int .u8 (x : Int)) := by
    rw [← HX.out]; exact (hs.below hb14).byte hpl
  have hb4 : b < w4.heap.size := Nat.lt_of_lt_of_le (by obtain ⟨ad, e, h, _⟩ := hs p _ (bytesV_at hpl); injection e with e; subst e; exact h) hb14.size
  have hl' : Hid ((l.set p cc).length = n) := by rw [Hid, List.length_set]; exact hl.out
  have hby' : ∀ x ∈ l.set p cc, x < 256 := fun y hy => by
    rcases List.mem_or_eq_of_mem_set hy with h | h
    · exact hby y h
    · rw [h]; exact hcc
  clear own4 hb34 hb23 hg hgl
  have hset := HSET.out
  generalize l.set p cc = l' at hd4 hl' hby' hset
  generalize hβ : ((cc : Int) == (x : Int)) = β at hset
  have hc24 := of_beside1 (some ⟨g, 0, none⟩) l' n c2 hl'.out hc2 hm2 hby' w4
  go_region_held3 (fun w' => w'.cell? ⟨b, off + p, none⟩ = some (.int .u8 (x : Int)) ∧ Dd (some ⟨g, 0, none⟩) l' w4 w') (first | exact ⟨hcx, hd4⟩ | exact ⟨hcx, hd4.drew⟩ | assumption)
    (first | (go_at_call 16; refine (hc24 _ ⟨b, off + p, none⟩ (.int .u8 (x : Int)) hb4 ?_).mono ?_; (first | exact ⟨hcx, hd4⟩ | exact ⟨hcx, hd4.drew⟩ | assumption); rintro e w' ⟨rfl, hw⟩))
  rename_i hHeld
  clear hc24 hd4 hcx hset hβ hw
  have hb1w : Below w1.heap.size w1 w' := hb14.trans (hHeld.2.1.mono hb14.size)
  clear hHeld hb24 hb12 hb14
  by_cases hlast : (p : Int) + 1 = (n : Int)
  · have hq : ((p : Int) + 1 == (n : Int)) = true := by simpa using hlast
    clear hlast
    go_wp2
    go_ret
    exact ⟨rfl, hb.trans (hb1w.mono hb.size)⟩
  · have hq : ((p : Int) + 1 == (n : Int)) = false := by simpa using hlast
    have hp2 : (p : Int) + 1 < (n : Int) := by omega
    clear hlast
    go_wp2_with (at_builtin; refine wpList_append_seen _ rfl (.tmp 49) (.tmp 50) _ rfl w'.heap.size 5 i0 _ 1 1 Try.underlying22 hi hz0 hz1 hz2 rfl (by omega) _ 0 [] rfl (own_empty w' w'.heap.size 5 1 (Nat.le_refl _)) w1.heap.size (some ⟨b, off, none⟩) n c (bytesV l) rfl ?k1 ?k2 ?k3 ?k4 ?k5 ?k6 ?_; (case k1 => rw [bytesV_length, hl.out]; omega); (case k2 => exact (hs.below hb1w).below (((Below.refl _ _).alloc hb1w.size _))); (case k3 => exact bytesV_one l); (case k4 => unfold maxLen; omega); (case k5 => omega); (case k6 => simp); intro A5 c5 w5 own5 hb5 hc5 hm5 hs5; simp only [Nat.zero_add, List.nil_append] at own5 hc5; obtain ⟨g5, rfl, hg5, hgl5⟩ := own_head own5 (by omega))
    have hpl2 : p + 1 < l.length := by rw [hl.out]; omega
    have hcp := own_byte own5 hpl hl.out
    have hcq := own_byte own5 hpl2 hl.out
    have hfp := own5.frozenAt p
    have hfq := own5.frozenAt (p + 1)
    have hsw := swap_beq l p hpl2 hby
    generalize hy : l[p + 1] = y at hcq hsw
    have HY := Lib.hid hy
    rw [HX.out] at hcp hsw
    have HSW := Lib.hid hsw
    clear hsw hy hs5 hb4 hl' hby' hm2 hc2
    go_region
    have own6 := ((own5.stored p (.int .u8 (y : Int))).1.stored (p + 1) (.int .u8 (x : Int))).1
    have hb56 : Below w'.heap.size w5 (((w5.setCell ⟨g5, p, none⟩ (.int .u8 (y : Int))).setCell ⟨g5, p + 1, none⟩ (.int .u8 (x : Int))).drew) := (((Below.refl _ _).setCell hg5 _).setCell hg5 _).drew
    rw [← bytesV_set, ← bytesV_set] at own6
    replace own6 := own6.drew
    clear own5 hcp hcq hfp hfq
    generalize (((w5.setCell ⟨g5, p, none⟩ (.int .u8 (y : Int))).setCell ⟨g5, p + 1, none⟩ (.int .u8 (x : Int))).drew) = w6 at own6 hb56 ⊢
    have hd6 : Dd (some ⟨g5, 0, none⟩) ((l.set p y).set (p + 1) x) w6 w6 := ⟨Below.refl _ _, fun j u hj => ⟨_, rfl, (own6.lt g5 rfl).2, own6.cells rfl j u hj⟩⟩
    have hbw6 : Below w'.heap.size w' w6 := (((Below.refl _ _).alloc (Nat.le_refl _) _).trans hb5).trans hb56
    have hb16 : Below w1.heap.size w1 w6 := hb1w.trans (hbw6.mono hb1w.size)
    have hcx : w6.cell? ⟨b, off + p, none⟩ = some (.int .u8 (x : Int)) := by
      rw [← HX.out]; exact (hs.below hb16).byte hpl
    have hcy : w6.cell? ⟨b, off + (p + 1), none⟩ = some (.int .u8 (y : Int)) := by
      rw [← HY.out]; exact (hs.below hb16).byte hpl2
    have hb6 : b < w6.heap.size := Nat.lt_of_lt_of_le (by obtain ⟨ad, e, h, _⟩ := hs p _ (bytesV_at hpl); injection e with e; subst e; exact h) hb16.size
    have hl6 : Hid (((l.set p y).set (p + 1) x).length = n) := by rw [Hid, List.length_set, List.length_set]; exact hl.out
    have hby6 : ∀ z ∈ (l.set p y).set (p + 1) x, z < 256 := fun z hz => by
      rcases List.mem_or_eq_of_mem_set hz with h | h
      · rcases List.mem_or_eq_of_mem_set h with h | h
        · exact hby z h
        · rw [h, ← HY.out]; exact hby _ (List.getElem_mem hpl2)
      · rw [h, ← HX.out]; exact hby _ (List.getElem_mem hpl)
    clear own6 hb56 hb5 hg5 hgl5
    have hsw := HSW.out
    generalize (l.set p y).set (p + 1) x = l6 at hd6 hl6 hby6 hsw
    generalize hγ : ((x : Int) == (y : Int)) = γ at hsw
    have hc6 := of_beside2 (some ⟨g5, 0, none⟩) l6 n c5 hl6.out hc5 hm5 hby6 w6
    go_wp2_with fail
    have e0 : (0 : Int) ≤ (p : Int) + 1 := by omega
    have e1 : IntKind.i64.wrap ((p : Int) + 1) = (p : Int) + 1 := IntWalk.i64_in _ (by omega)
    have e2 : ((p : Int) + 1).toNat = p + 1 := by omega
    go_region_held3 (fun w' => w'.cell? ⟨b, off + p, none⟩ = some (.int .u8 (x : Int)) ∧ w'.cell? ⟨b, off + (p + 1), none⟩ = some (.int .u8 (y : Int)) ∧ Dd (some ⟨g5, 0, none⟩) l6 w6 w') (first | exact ⟨hcx, hcy, hd6⟩ | exact ⟨hcx, hcy, hd6.drew⟩ | assumption)
      (first | (go_at_call 16; refine (hc6 _ ⟨b, off + p, none⟩ ⟨b, off + (p + 1), none⟩ (.int .u8 (x : Int)) (.int .u8 (y : Int)) hb6 hb6 ?_).mono ?_; (first | exact ⟨hcx, hcy, hd6⟩ | exact ⟨hcx, hcy, hd6.drew⟩ | assumption); rintro e w' ⟨rfl, hw⟩))
    rename_i w7 _ hHeld
    clear hc6 hd6 hcx hcy hsw hγ e1 e2
    go_wp2
    go_ret
    exact ⟨rfl, hb.trans ((hb16.trans (hHeld.2.2.1.mono hb16.size)).mono hb.size)⟩

theorem changedLaw_any (l : List Nat) (A : Option Addr) (n c : Nat) (hl : l.length = n) (hc : n ≤ c) (hmax : c ≤ maxLen) (hby : ∀ x ∈ l, x < 256) (p : Int) (cc : Int) (hcc : (Lit.int .u8 cc).wf = true) (w : World)
    (hs : Seen w w.heap.size A (bytesV l)) :
    Calls Try.prog 5 #[.slice A n c, .int .i64 p, .int .u8 cc] w fun e w' => e = .returned (.bool true) ∧ Below w.heap.size w w' := by
  by_cases g0 : (20000 : Int) < (n : Int)
  · clear hs hl hby
    go_enter Try.func5, Try.ntmps5
    go_wp2_with (go_at_call 15; refine (awake_any _).mono ?_; rintro e w1 ⟨rfl, hb⟩)
    go_ret
    exact ⟨rfl, hb⟩
  · by_cases g1 : p < 0
    · clear hs hl hby
      go_enter Try.func5, Try.ntmps5
      go_wp2_with (go_at_call 15; refine (awake_any _).mono ?_; rintro e w1 ⟨rfl, hb⟩)
      go_ret
      exact ⟨rfl, hb⟩
    · by_cases g2 : (n : Int) ≤ p
      · clear hs hl hby
        go_enter Try.func5, Try.ntmps5
        go_wp2_with (go_at_call 15; refine (awake_any _).mono ?_; rintro e w1 ⟨rfl, hb⟩)
        go_ret
        exact ⟨rfl, hb⟩
      · obtain ⟨p, rfl⟩ := Int.eq_ofNat_of_zero_le (show 0 ≤ p by omega)
        have hb := bounds_u8 hcc
        obtain ⟨cc, rfl⟩ := Int.eq_ofNat_of_zero_le (show 0 ≤ cc by omega)
        cases l with
        | nil => simp at hl; omega
        | cons x r =>
          obtain ⟨b, off, rfl, _⟩ := hs.plain
          exact changed_main (x :: r) b off n c hl hc hmax hby g0 p (by omega) cc (by omega) w hs
end Go.Proofs.Ytnobgbndgjfiaaa
