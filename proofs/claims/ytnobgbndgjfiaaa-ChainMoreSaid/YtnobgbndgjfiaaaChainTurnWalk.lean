/- The law ChainTurn returns true and leaves all memory that was there as it was: for every session, Seq, list of heads and int. -/
import Derived.Test.YtnobgbndgjfiaaaChainAwake
import Derived.Test.YtnobgbndgjfiaaaChainPure2
import Derived.Deep.RegionHeld3
import Derived.Deep.RegionLaw
import Derived.Laws.StructEq
import Derived.Deep.QuietTactic
import Derived.BigQuiet
namespace Go.Proofs.Ytnobgbndgjfiaaa
open Go.RowKit ChainPure

theorem step_append_seen {P : Program} (w : World) {ops : Array Oper} {o : Oper} {a : Act} {K : Act → World → Prop} {Q : Exit → Act → World → Prop} {E : Prop} (hgd : o.guard = none) (s x : Operand) (t : TypeId)
    (ho : o.op = .call { callee := .builtin .append, args := #[s, x], argTypes := #[t, t] })
    (B : Nat) (e : TypeId) (i : TypeInfo) (z : Value) (size bytes : Nat) (ht : P.underlying t = some (.slice e)) (hi : P.info? e = some i) (hz : i.zero = some z)
    (hsize : i.size = size) (hby : i.bytes = bytes) (hzs : z.cells.size = size) (hsz : 0 < size) (v : Value) (n : Nat) (xs : List Value) (hv : a.eval s = v) (hown : w.ownsRow B e size v n xs)
    (B' : Nat) (A : Option Addr) (m c : Nat) (news : List Value) (hx : a.eval x = .slice A m c) (hl : news.length = m * size) (hs : Seen w B' A news) (h1 : ∀ u ∈ news, u.oneCell' = true)
    (h63 : n + m ≤ maxLen) (hbytes : (n + m) * bytes ≤ 140737488355328) (hB : B ≤ w.heap.size)
    (h : ∀ A' c' w', w'.ownsRow B e size (.slice A' (n + m) c') (n + m) (xs ++ news) → Below B w w' → n + m ≤ c' → c' ≤ maxLen → Seen w' w'.heap.size A' (xs ++ news) → K (a.put o.dst (.slice A' (n + m) c')) w') :
    if Region.wanted o (yielded ops a.tmps) = true then Oper.wp P o a w K Q else E := by
  have hw : Region.wanted o (yielded ops a.tmps) = true := by simp [Region.wanted, hgd]
  rw [if_pos hw]
  obtain ⟨A', c', w', hr, h2, h3, h4, h5, h6⟩ := run_append_seen (P := P) w B t o.type e i z size bytes ht hi hz hsize hby hzs hsz v n xs hown B' A m c news hl hs h1 h63 hbytes hB
  unfold Oper.wp execOp
  simp only [ho, resolve, invoke, builtin, Sem.run_bind, Sem.run_pure, Result.andThen_ok, List.map_toArray, List.map_cons, List.map_nil, hv, hx, hr]
  exact h A' c' w' h2 h3 h4 h5 h6

theorem headsV_one (l : List Hd) : ∀ u ∈ headsV l, u.oneCell' = true := fun u hu => by
  obtain ⟨h, _, hu⟩ := List.mem_flatMap.1 hu
  exact hd_one h u hu
theorem headsV_take (l : List Hd) (k : Nat) : headsV (l.take k) = (headsV l).take (k * 4) := by
  induction l generalizing k with
  | nil => simp [headsV]
  | cons x l ih =>
    cases k with
    | zero => simp [headsV]
    | succ k =>
      have := ih k
      simp only [headsV, List.take_succ_cons, List.flatMap_cons] at this ⊢
      rw [this, show (k + 1) * 4 = (hd x).length + k * 4 from by simp [hd]; omega, List.take_length_add_append]
theorem headsV_drop (l : List Hd) (k : Nat) : headsV (l.drop k) = (headsV l).drop (k * 4) := by
  induction l generalizing k with
  | nil => simp [headsV]
  | cons x l ih =>
    cases k with
    | zero => simp [headsV]
    | succ k =>
      have := ih k
      simp only [headsV, List.drop_succ_cons, List.flatMap_cons] at this ⊢
      rw [this, show (k + 1) * 4 = (hd x).length + k * 4 from by simp [hd]; omega, List.drop_length_add_append]
/-- A slice of heads, cut. -/
theorem Seen.cut4 {w : World} {B : Nat} {A : Option Addr} {l : List Hd} (h : Seen w B A (headsV l)) {n cap k : Nat} (hn : k ≤ n) (hcap : n ≤ cap) (hl : l.length = n) :
    Seen w B (if cap = k then A else A.map (·.add (k * 4))) (headsV (l.drop k)) := fun j u hj => by
  rw [headsV_drop, List.getElem?_drop] at hj
  obtain ⟨ad, rfl, hb, hc⟩ := h _ u hj
  have hlt : k * 4 + j < (headsV l).length := (List.getElem?_eq_some_iff.1 hj).1
  rw [headsV_length, hl] at hlt
  rw [if_neg (by omega)]
  exact ⟨ad.add (k * 4), rfl, by rw [add_block]; exact hb, by rw [Addr.add_add]; exact hc⟩

theorem alloc_cell {W : World} {a : Addr} {v : Value} (o : Obj) (h : W.cell? a = some v) : (W.alloc o).cell? a = some v :=
  (World.cell?_of_block (Below.heap_alloc W o a.block (World.block_lt_of_cell? W a h))).trans h

/-- Of the places below k no two heads have one Seq. -/
def Apart (l : List Hd) (k : Nat) : Prop := ∀ i j (hi : i < l.length) (hj : j < l.length), i < k → j < i → l[i].seq ≠ l[j].seq

theorem link_place {s q : Nat} {l : List Hd} {k i : Nat} (h : (chain s q l)[k]? = some i) : i < l.length :=
  (List.findIdx?_eq_some_iff_getElem.1 (ch_at h)).1

set_option maxHeartbeats 4000000 in
theorem chainTurn_main (s q : Nat) (hq : q ≤ last) (l : List Hd) (A : Option Addr) (n c : Nat) (hl : Hid (l.length = n)) (hc : n ≤ c) (hmax : c ≤ maxLen) (h : ¬ (200 : Int) < (n : Int)) (p : Nat) (hp : p ≤ n) (w : World) (hs : Seen w w.heap.size A (headsV l)) :
    Calls Try.prog 10 #[.int .u32 (s : Int), .int .u32 (q : Int), .slice A n c, .int .i64 (p : Int)] w fun e w' => e = .returned (.bool true) ∧ Below w.heap.size w w' := by
  have hp0 : (0 : Int) ≤ (p : Int) := by omega
  have hpn : (p : Int) ≤ (n : Int) := by omega
  go_enter Try.func10, Try.ntmps10
  go_wp2_with fail
  refine (chainAwake_any _).mono ?_
  rintro e w1 ⟨rfl, hb⟩
  have hs1 := (hs.below hb).more hb.size
  clear hs
  go_wp2
  go_loopw [34] (fun i wr => ∃ k : Nat, k ≤ n ∧ i = .int .i64 k ∧ Below w1.heap.size w1 wr ∧ Hid (Apart l k)) (fun i _ => n - (intOf i).toNat)
  case atStart => exact ⟨0, Nat.zero_le _, rfl, Below.refl _ _, fun i j _ _ hi => absurd hi (by omega)⟩
  case round =>
    obtain ⟨k, hk, rfl, hbr, hap⟩ := hrel
    by_cases hlt : k < n
    · have hkl : k < l.length := by rw [hl.out]; exact hlt
      have hkn : (k : Int) < (n : Int) := by omega
      have hk0 : (0 : Int) ≤ (k : Int) := by omega
      obtain ⟨b, off, rfl, hbl, d0, d1, d2, d3⟩ := (hs1.below hbr).head hkl
      generalize hx : l[k] = x at d0 d1 d2 d3
      have HX := Lib.hid hx
      clear hx
      obtain ⟨wo, rfl⟩ : ∃ wo : World, wo = wr := ⟨_, rfl⟩
      go_wp2
      have hbw : Below w1.heap.size w1 (wo.alloc (.cells #[.int .u8 (x.kind : Int), .int .u32 (x.session : Int), .int .u32 (x.id : Int), .int .u32 (x.seq : Int)] 42)) := hbr.alloc hbr.size _
      have hcx : (wo.alloc (.cells #[.int .u8 (x.kind : Int), .int .u32 (x.session : Int), .int .u32 (x.id : Int), .int .u32 (x.seq : Int)] 42)).cell? ⟨wo.heap.size, 3, none⟩ = some (.int .u32 (x.seq : Int)) := by
        rw [cell_of_row _ _ _ _ _ _ (heap_alloc_new _ _)]
        rfl
      have hsz : wo.heap.size + 1 ≤ (wo.alloc (.cells #[.int .u8 (x.kind : Int), .int .u32 (x.session : Int), .int .u32 (x.id : Int), .int .u32 (x.seq : Int)] 42)).heap.size := by simp
      clear d0 d1 d2 d3
      generalize wo.alloc (.cells #[.int .u8 (x.kind : Int), .int .u32 (x.session : Int), .int .u32 (x.id : Int), .int .u32 (x.seq : Int)] 42) = wi at hbw hcx hsz ⊢
      go_loopw [43] (fun i wr => ∃ m : Nat, m ≤ k ∧ i = .int .i64 m ∧ Below w1.heap.size w1 wr ∧ wr.cell? ⟨wo.heap.size, 3, none⟩ = some (.int .u32 (x.seq : Int)) ∧ wo.heap.size + 1 ≤ wr.heap.size ∧ Hid (∀ j (hj : j < l.length), j < m → x.seq ≠ l[j].seq)) (fun i _ => k - (intOf i).toNat)
      case atStart => exact ⟨0, Nat.zero_le _, rfl, hbw, hcx, hsz, fun j _ hj => absurd hj (by omega)⟩
      case round =>
        obtain ⟨m, hm, rfl, hbr2, hcx2, hsz2, hno⟩ := hrel
        clear hcx
        by_cases hlt2 : m < k
        · have hml : m < l.length := by omega
          have hmk : (m : Int) < (k : Int) := by omega
          obtain ⟨b', off', e', hbl', d0, d1, d2, d3⟩ := (hs1.below hbr2).head hml
          injection e' with e'
          injection e' with e1 e2
          subst e1
          subst e2
          generalize hy : l[m] = y at d0 d1 d2 d3
          have HY := Lib.hid hy
          clear hy
          have hcx3 : (wr.alloc (.cells #[.int .u8 (y.kind : Int), .int .u32 (y.session : Int), .int .u32 (y.id : Int), .int .u32 (y.seq : Int)] 42)).cell? ⟨wo.heap.size, 3, none⟩ = some (.int .u32 (x.seq : Int)) := alloc_cell _ hcx2
          by_cases hxy : x.seq = y.seq
          · have hxy' : ((x.seq : Int) == (y.seq : Int)) = true := by simp [hxy]
            clear hxy
            go_wp2
            go_ret
            exact ⟨rfl, hb.trans ((hbr2.alloc hbr2.size _).mono hb.size)⟩
          · have hxy' : ((x.seq : Int) == (y.seq : Int)) = false := by simp; omega
            have hno2 : Hid (∀ j (hj : j < l.length), j < m + 1 → x.seq ≠ l[j].seq) := fun j hj hj2 => by
              rcases Nat.lt_or_ge j m with h1 | h1
              · exact hno.out j hj h1
              · obtain rfl : j = m := by omega
                rw [HY.out]; exact hxy
            clear hxy
            go_wp2
            go_roundw
            case rel => exact ⟨m + 1, by omega, by go_num, hbr2.alloc hbr2.size _, hcx3, by simp; omega, hno2⟩
            case measure => simp [intOf]; omega
        · have hap2 : Hid (Apart l (k + 1)) := fun i j hi hj hik hji => by
            rcases Nat.lt_or_ge i k with h1 | h1
            · exact hap.out i j hi hj h1 hji
            · obtain rfl : i = k := by omega
              rw [HX.out]; exact hno.out j hj (by omega)
          go_wp2
          go_roundw
          case rel => exact ⟨k + 1, by omega, by go_num, hbr2, hap2⟩
          case measure => simp [intOf]; omega
    · have hap2 : Hid (Apart l n) := fun i j hi hj _ hji => by
        have := hl.out
        exact hap.out i j hi hj (by omega) hji
      clear hap
      go_wp2
      have hsl := hs1.below hbr
      have hlen : (l.drop p).length = n - p := by rw [List.length_drop, hl.out]
      have hlent : (l.take p).length = p := by rw [List.length_take]; have := hl.out; omega
      have HLD := Lib.hid hlen
      have HLT := Lib.hid hlent
      have hcut := hsl.cut4 hp hc hl.out
      generalize hAc : (if c = p then A else A.map (·.add (p * 4))) = Ac at hcut
      have htake : Seen wr w1.heap.size A (headsV (l.take p)) := by rw [headsV_take]; exact hsl.take _
      clear hlen hlent
      have hpc : p ≤ c := by omega
      obtain ⟨i0, hi, hz0, hz1, hz2⟩ := info_parts info42
      have own0 := own_empty' wr wr.heap.size 42 4 (Nat.le_refl _)
      go_region_law (first
        | (refine step_append_seen _ rfl (.tmp 54) (.tmp 57) _ rfl wr.heap.size 42 i0 _ 4 16 Try.underlying32 hi hz0 hz1 hz2 rfl (by omega) _ 0 [] rfl own0.drew w1.heap.size Ac (n - p) (c - p) (headsV (l.drop p)) rfl ?g1 ?g2 ?g3 ?g4 ?g5 ?g6 ?_; (case g1 => rw [headsV_length, HLD.out]); (case g2 => exact hcut.below (((Below.refl _ _).alloc hbr.size _).drew)); (case g3 => exact headsV_one _); (case g4 => unfold maxLen; omega); (case g5 => omega); (case g6 => simp); intro A5 c5 w5 own5 hb5 hc5 hm5 hs5; simp only [Nat.zero_add, List.nil_append] at own5 hc5)
        | (refine step_append_seen _ rfl (.tmp 58) (.tmp 61) _ rfl wr.heap.size 42 i0 _ 4 16 Try.underlying32 hi hz0 hz1 hz2 rfl (by omega) _ (n - p) (headsV (l.drop p)) rfl own5 w1.heap.size A p c (headsV (l.take p)) rfl ?k1 ?k2 ?k3 ?k4 ?k5 ?k6 ?_; (case k1 => rw [headsV_length, HLT.out]); (case k2 => exact (htake.below (((Below.refl _ _).alloc hbr.size _).drew)).below (hb5.mono hbr.size)); (case k3 => exact headsV_one _); (case k4 => unfold maxLen; omega); (case k5 => omega); (case k6 => exact Nat.le_trans (by simp) hb5.size); intro A6 c6 w6 own6 hb6 hc6 hm6 hs6))
      clear hAc
      rw [← headsV_append] at hs6
      have hml : Hid ((l.drop p ++ l.take p).length = n) := by
        show (l.drop p ++ l.take p).length = n
        rw [List.length_append, HLD.out, HLT.out]
        omega
      have hpw : l.Pairwise (fun a b => a.seq ≠ b.seq) := List.pairwise_iff_getElem.2 fun i j hi hj hij => (hap2.out j i hj hi (by have := hl.out; omega) hij).symm
      have hmt := chain_match (s := s) (q := q) (l := l) (m := l.drop p ++ l.take p) (fun t => (find_turn hpw p).symm)
      have hlk := fun k i => link_place (s := s) (q := q) (l := l) (k := k) (i := i)
      have hlk2 := fun k i => link_place (s := s) (q := q) (l := l.drop p ++ l.take p) (k := k) (i := i)
      have HMT := Lib.hid hmt
      have HLK := Lib.hid hlk
      have HLK2 := Lib.hid hlk2
      have hb16 : Below w1.heap.size w1 w6 := ((((hbr.trans (((Below.refl _ _).alloc (Nat.le_refl _) _).drew.mono hbr.size)).trans (hb5.mono hbr.size))).trans (hb6.mono hbr.size))
      have hs16 := (hs1.below hb16).more hb16.size
      clear hmt hlk hlk2 hpw hap2 HLD HLT hcut htake own0 own5 own6 hb5 hb6 hbr hs1 hsl hs5 hc5 hm5
      have hA := chainOf_any s q hq l A n c hl.out (by omega)
      have hB := chainOf_any s q hq (l.drop p ++ l.take p) A6 n c6 hml.out (by unfold maxLen; omega)
      have ha200 : (chain s q l).length ≤ 200 := by
        have h1 := chain_length_le (s := s) (q := q) (l := l)
        have h2 := hl.out
        omega
      generalize chain s q l = a at hA HMT HLK ha200
      generalize chain s q (l.drop p ++ l.take p) = b at hB HMT HLK2
      generalize l.drop p ++ l.take p = m at hs6 hml HMT HLK2 hB
      have HA := Lib.hid hA
      have HB := Lib.hid hB
      have HAB : Hid (a.length = b.length) := HMT.out.1
      clear hA hB
      go_wp2_with fail
      refine (HA.out _ hs16).mono ?_
      rintro e w7 ⟨A7, c7, rfl, hc7, hm7, hs7, hb7⟩
      have hs67 := (hs6.below hb7).more hb7.size
      go_wp2_with fail
      refine (HB.out _ hs67).mono ?_
      rintro e w8 ⟨A8, c8, rfl, hc8, hm8, hs8, hb8⟩
      have hs78 := (hs7.below hb8).more hb8.size
      have hs68 := (hs67.below hb8).more hb8.size
      have hs18 := (((hs16.below hb7).more hb7.size).below hb8).more hb8.size
      have hb18 : Below w1.heap.size w1 w8 := (hb16.trans (hb7.mono hb16.size)).trans (hb8.mono (Nat.le_trans hb16.size hb7.size))
      clear hs6 hs67 hs16 hs7 hb7 hb8 hb16
      have hne : ((a.length : Int) != (b.length : Int)) = false := by
        rw [HAB.out]; simp
      go_wp2_with fail
      go_loopw [78] (fun i wr => ∃ k : Nat, k ≤ a.length ∧ i = .int .i64 k ∧ Below w8.heap.size w8 wr) (fun i _ => a.length - (intOf i).toNat)
      case atStart => exact ⟨0, Nat.zero_le _, rfl, Below.refl _ _⟩
      case round =>
        obtain ⟨k3, hk3, rfl, hb3⟩ := hrel
        by_cases hlt3 : k3 < a.length
        · have hkb : k3 < b.length := by rw [← HAB.out]; exact hlt3
          have hka' : (k3 : Int) < (a.length : Int) := by omega
          have hkb' : (k3 : Int) < (b.length : Int) := by omega
          have hk30 : (0 : Int) ≤ (k3 : Int) := by omega
          have hk31 : (k3 : Int) ≤ 200 := by omega
          obtain ⟨b7, o7, rfl, hl7, e7⟩ := (hs78.below hb3).at1 (intsV_at hlt3)
          obtain ⟨b8, o8, rfl, hl8, e8⟩ := (hs8.below hb3).at1 (intsV_at hkb)
          have hil := HLK.out k3 _ (List.getElem?_eq_getElem hlt3)
          have hjm := HLK2.out k3 _ (List.getElem?_eq_getElem hkb)
          have hij := HMT.out.2 k3 _ _ (List.getElem?_eq_getElem hlt3) (List.getElem?_eq_getElem hkb)
          generalize a[k3] = i at *
          generalize b[k3] = j at *
          rw [List.getElem?_eq_getElem hil, List.getElem?_eq_getElem hjm] at hij
          injection hij with hij
          obtain ⟨b1, o1, rfl, hl1, d0, d1, d2, d3⟩ := (hs18.below hb3).head hil
          obtain ⟨b6, o6, rfl, hl6, g0, g1, g2, g3⟩ := (hs68.below hb3).head hjm
          rw [hij] at d0 d1 d2 d3
          have hin : (i : Int) < (n : Int) := by rw [← hl.out]; omega
          have hjn : (j : Int) < (n : Int) := by rw [← hml.out]; omega
          have hi0' : (0 : Int) ≤ (i : Int) := by omega
          have hj0' : (0 : Int) ≤ (j : Int) := by omega
          clear hij
          generalize m[j] = x at *
          clear hs78 hs8 hs18 hs68 hil hjm
          go_wp2
          go_quiet (fail)
          go_wp2
          go_roundw
          case rel => exact ⟨k3 + 1, by omega, by go_num, hb3.trans ⟨rfl, rfl, rfl, Nat.le_refl _, fun _ _ => rfl⟩⟩
          case measure => simp [intOf]; omega
        · go_wp2
          go_ret
          exact ⟨rfl, hb.trans ((hb18.trans (hb3.mono hb18.size)).mono hb.size)⟩

theorem chainTurn_any (s q : Nat) (hq : q ≤ last) (l : List Hd) (A : Option Addr) (n c : Nat) (hl : l.length = n) (hc : n ≤ c) (hmax : c ≤ maxLen) (z : Int) (w : World) (hs : Seen w w.heap.size A (headsV l)) :
    Calls Try.prog 10 #[.int .u32 (s : Int), .int .u32 (q : Int), .slice A n c, .int .i64 z] w fun e w' => e = .returned (.bool true) ∧ Below w.heap.size w w' := by
  by_cases h : (200 : Int) < (n : Int)
  · clear hs hl
    go_enter Try.func10, Try.ntmps10
    go_wp2_with (go_at_call 20; refine (chainAwake_any _).mono ?_; rintro e w1 ⟨rfl, hb⟩)
    go_ret
    exact ⟨rfl, hb⟩
  · by_cases h1 : z < 0
    · clear hs hl
      go_enter Try.func10, Try.ntmps10
      go_wp2_with (go_at_call 20; refine (chainAwake_any _).mono ?_; rintro e w1 ⟨rfl, hb⟩)
      go_ret
      exact ⟨rfl, hb⟩
    · by_cases h2 : (n : Int) < z
      · clear hs hl
        go_enter Try.func10, Try.ntmps10
        go_wp2_with (go_at_call 20; refine (chainAwake_any _).mono ?_; rintro e w1 ⟨rfl, hb⟩)
        go_ret
        exact ⟨rfl, hb⟩
      · obtain ⟨p, rfl⟩ := Int.eq_ofNat_of_zero_le (show 0 ≤ z by omega)
        exact chainTurn_main s q hq l A n c hl hc hmax h p (by omega) w hs
end Go.Proofs.Ytnobgbndgjfiaaa
