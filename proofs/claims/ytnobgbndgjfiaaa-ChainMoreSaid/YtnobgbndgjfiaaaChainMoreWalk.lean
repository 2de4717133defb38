/- The law ChainMore returns true and leaves all memory that was there as it was: for every session, Seq, two lists of heads and int. -/
import Derived.Test.YtnobgbndgjfiaaaChainTurnWalk
import Derived.Test.YtnobgbndgjfiaaaChainPure3
import Derived.Test.YtnobgbndgjfiaaaAppend2
namespace Go.Proofs.Ytnobgbndgjfiaaa
open Go.RowKit ChainPure

theorem intsV_take (l : List Nat) (k : Nat) : intsV (l.take k) = (intsV l).take k := by simp [intsV, List.map_take]
theorem hd_cell42 (w : World) (x : Hd) (j : Nat) (u : Value) (h : (hd x)[j]? = some u) :
    ((w.alloc (.cells #[.int .u8 (x.kind : Int), .int .u32 (x.session : Int), .int .u32 (x.id : Int), .int .u32 (x.seq : Int)] 42)).alloc (.cells #[.int .u8 (x.kind : Int), .int .u32 (x.session : Int), .int .u32 (x.id : Int), .int .u32 (x.seq : Int)] 42)).cell? ⟨w.heap.size + 1, j, none⟩ = some u := by
  have hn := heap_alloc_new (w.alloc (.cells #[.int .u8 (x.kind : Int), .int .u32 (x.session : Int), .int .u32 (x.id : Int), .int .u32 (x.seq : Int)] 42)) (.cells #[.int .u8 (x.kind : Int), .int .u32 (x.session : Int), .int .u32 (x.id : Int), .int .u32 (x.seq : Int)] 42)
  rw [show (w.alloc (.cells #[.int .u8 (x.kind : Int), .int .u32 (x.session : Int), .int .u32 (x.id : Int), .int .u32 (x.seq : Int)] 42)).heap.size = w.heap.size + 1 from by simp] at hn
  rw [cell_of_row _ _ _ _ _ _ hn, ← h]
  simp [hd]
theorem own_more {w : World} {B : Nat} {v : Value} {r : List Hd} {x : Hd} (h : w.ownsRow B 42 4 v (r.length + 1) (headsV r ++ hd x)) (nq : Nat) : (w.drewN nq).ownsRow B 42 4 v (r.length + [x].length) (headsV r ++ headsV [x]) := by
  have h' : (w.drewN nq).ownsRow B 42 4 v (r.length + 1) (headsV r ++ hd x) := h
  simpa [headsV] using h'
theorem chain_at {s q : Nat} {l : List Hd} {k i : Nat} (h : (chain s q l)[k]? = some i) : l.findIdx? (ishit s (q + 1 + k)) = some i := ch_at h

set_option maxHeartbeats 8000000 in
set_option maxRecDepth 100000 in
theorem chainMore_main (s q : Nat) (hq : q ≤ last) (l more : List Hd) (A D : Option Addr) (n c n' c' : Nat) (hl : Hid (l.length = n)) (hc : n ≤ c) (hmax : c ≤ maxLen) (h : ¬ (200 : Int) < (n : Int))
    (hl' : Hid (more.length = n')) (h' : ¬ (200 : Int) < (n' : Int)) (z : Int) (w : World) (hs : Seen w w.heap.size A (headsV l)) (hs' : Seen w w.heap.size D (headsV more)) :
    Calls Try.prog 9 #[.int .u32 (s : Int), .int .u32 (q : Int), .slice A n c, .slice D n' c', .int .i64 z] w fun e w' => e = .returned (.bool true) ∧ Below w.heap.size w w' := by
  obtain ⟨i0, hi, hz0, hz1, hz2⟩ := info_parts info42
  have hA := chainOf_any s q hq l A n c hl.out (by omega)
  have hpre := chain_prefix (s := s) (q := q) l more
  have hmt := chain_match (s := s) (q := q) (l := l.filter (islink s)) (m := l) (fun t => find_links s t l)
  have hwas200 : (chain s q l).length ≤ 200 := by
    have h1 := chain_length_le (s := s) (q := q) (l := l)
    have h2 := hl.out
    omega
  have hlk := fun k i => link_place (s := s) (q := q) (l := l) (k := k) (i := i)
  have hat := fun k i => chain_at (s := s) (q := q) (l := l) (k := k) (i := i)
  have hsame := fun p w => left_same (s := s) (q := q) (p := p) (w := w) (l := l)
  have hcut := fun p w => left_cut (s := s) (q := q) (p := p) (w := w) (l := l)
  generalize chain s q l = was at hA hpre hmt hwas200 hlk hat hsame hcut
  have HA := Lib.hid hA
  have HPRE := Lib.hid hpre
  have HMT := Lib.hid hmt
  have HLK := Lib.hid hlk
  have HAT := Lib.hid hat
  have HSAME := Lib.hid hsame
  have HCUT := Lib.hid hcut
  clear hA hpre hmt hlk hat hsame hcut
  go_enter Try.func9, Try.ntmps9
  go_wp2_with fail
  refine (chainAwake_any _).mono ?_
  rintro e w1 ⟨rfl, hb⟩
  replace hs := (hs.below hb).more hb.size
  replace hs' := (hs'.below hb).more hb.size
  go_wp2_with fail
  refine (HA.out _ hs).mono ?_
  rintro e w2 ⟨A2, c2, rfl, hc2, hm2, hs2, hb2⟩
  have own0 := own_empty' w2 w2.heap.size 42 4 (Nat.le_refl _)
  go_wp2_with (first
    | (at_builtin; refine wpList_append_seen _ rfl (.tmp 40) (.tmp 41) _ rfl w2.heap.size 42 i0 _ 4 16 Try.underlying32 hi hz0 hz1 hz2 rfl (by omega) _ 0 [] rfl own0 w1.heap.size A n c (headsV l) rfl ?h1 ?h2 ?h3 ?h4 ?h5 ?h6 ?_; (case h1 => rw [headsV_length, hl.out]); (case h2 => exact (hs.below hb2).below (((Below.refl _ _).alloc hb2.size _))); (case h3 => exact headsV_one l); (case h4 => unfold maxLen; omega); (case h5 => omega); (case h6 => simp); intro A3 c3 w3 own3 hb3 hc3 hm3 hs3; simp only [Nat.zero_add, List.nil_append] at own3 hc3)
    | (at_builtin; refine wpList_append_seen _ rfl (.tmp 42) (.tmp 43) _ rfl w2.heap.size 42 i0 _ 4 16 Try.underlying32 hi hz0 hz1 hz2 rfl (by omega) _ n (headsV l) rfl own3 w1.heap.size D n' c' (headsV more) rfl ?g1 ?g2 ?g3 ?g4 ?g5 ?g6 ?_; (case g1 => rw [headsV_length, hl'.out]); (case g2 => exact ((hs'.below hb2).below ((Below.refl _ _).alloc hb2.size _)).below (hb3.mono hb2.size)); (case g3 => exact headsV_one more); (case g4 => unfold maxLen; omega); (case g5 => omega); (case g6 => exact Nat.le_trans (by simp) hb3.size); intro A4 c4 w4 own4 hb4 hc4 hm4 hs4))
  rw [← headsV_append] at hs4
  have hb24 : Below w2.heap.size w2 w4 := (((Below.refl _ _).alloc (Nat.le_refl _) _).trans hb3).trans hb4
  have hb14 : Below w1.heap.size w1 w4 := hb2.trans (hb24.mono hb2.size)
  have hB := chainOf_any s q hq (l ++ more) A4 (n + n') c4 (by rw [List.length_append, hl.out, hl'.out]) (by unfold maxLen; omega) w4 hs4
  replace hs2 := (hs2.below hb24).more hb24.size
  replace hs := (hs.below hb14).more hb14.size
  clear own0 own3 own4 hs3 hs4 hb3 hb4 hb24 hb2 hs' hc3 hm3 hc4 hm4
  refine hB.mono ?_
  clear hB
  rintro e w5 ⟨A5, c5, rfl, hc5, hm5, hs5, hb5⟩
  have hpl := HPRE.out.1
  have htk := HPRE.out.2
  have hs5t := hs5.take was.length
  rw [show (intsV (chain s q (l ++ more))).take was.length = intsV was by rw [← intsV_take, htk]] at hs5t
  replace hs2 := (hs2.below hb5).more hb5.size
  replace hs := (hs.below hb5).more hb5.size
  have hb15 := hb14.trans (hb5.mono hb14.size)
  clear htk hs5 hb5 hb14 HPRE
  generalize (chain s q (l ++ more)).length = nn at hc5 hpl ⊢
  have hple : (was.length : Int) ≤ (nn : Int) := by omega
  have hplc : (was.length : Int) ≤ (c5 : Int) := by omega
  have hd5 : decide (nn < was.length) = false := by simp; omega
  go_wp2_with fail
  refine (same_any was was A5 A2 _ c5 _ c2 rfl rfl (by unfold maxLen; omega) _ hs5t hs2).mono ?_
  rintro e w6 ⟨rfl, hb6⟩
  rw [show (was == was) = true from by simp]
  replace hs2 := (hs2.below hb6).more hb6.size
  replace hs := (hs.below hb6).more hb6.size
  have hb16 := hb15.trans (hb6.mono hb15.size)
  clear hs5t hb6 hb15
  go_wp2_with fail
  clear hple hplc hpl hc5 hm5 hd5
  go_loopw [13, 62] (fun v i wr => ∃ (k : Nat) (Al : Option Addr) (cl : Nat), k ≤ n ∧ i = .int .i64 k ∧ v = .slice Al ((l.take k).filter (islink s)).length cl ∧ Below w6.heap.size w6 wr ∧
      wr.ownsRow w6.heap.size 42 4 (.slice Al ((l.take k).filter (islink s)).length cl) ((l.take k).filter (islink s)).length (headsV ((l.take k).filter (islink s)))) (fun _ i _ => n - (intOf i).toNat)
  case atStart => exact ⟨0, none, 0, Nat.zero_le _, rfl, rfl, Below.refl _ _, World.ownsRow_nil w6 w6.heap.size 42 4⟩
  case round =>
    obtain ⟨k, Al, cl, hk, rfl, rfl, hbr, own⟩ := hrel
    by_cases hlt : k < n
    · have hkl : k < l.length := by rw [hl.out]; exact hlt
      have hkn : (k : Int) < (n : Int) := by omega
      obtain ⟨b, off, rfl, hbl, d0, d1, d2, d3⟩ := (hs.below hbr).head hkl
      have hfs := filter_step (islink s) l k hkl
      generalize hx : l[k] = x at d0 d1 d2 d3 hfs
      clear hx
      have hfk : ((l.take k).filter (islink s)).length ≤ 200 := by
        have h1 := List.length_filter_le (islink s) (l.take k)
        rw [List.length_take] at h1
        omega
      generalize (l.take k).filter (islink s) = r at own hfk hfs ⊢
      generalize hr' : (l.take (k + 1)).filter (islink s) = r' at hfs
      have HR := Lib.hid hr'
      clear hr'
      have hlx : islink s x = (((x.kind : Int) == 1 || (x.kind : Int) == 2) && (x.session : Int) == (s : Int)) := by
        rw [beq_cast, show (1 : Int) = ((1 : Nat) : Int) from rfl, show (2 : Int) = ((2 : Nat) : Int) from rfl, beq_cast, beq_cast]
        rfl
      generalize e1 : ((x.kind : Int) == 1) = b1 at hlx
      generalize e2 : ((x.kind : Int) == 2) = b2 at hlx
      generalize e3 : ((x.session : Int) == (s : Int)) = b3 at hlx
      cases b1 <;> cases b2 <;> cases b3
      all_goals
        first
        | (have HX := Lib.hid (show r' = r ++ [x] from hfs.trans (by rw [hlx]; rfl))
           clear hlx hfs
           go_wp2_with (at_builtin; refine wpList_append_seen _ rfl (.tmp 80) (.tmp 82) _ rfl w6.heap.size 42 i0 _ 4 16 Try.underlying32 hi hz0 hz1 hz2 rfl (by omega) _ r.length (headsV r) rfl ((own.alloc _).alloc _) (wr.heap.size + 2) (some ⟨wr.heap.size + 1, 0, none⟩) 1 1 (hd x) rfl rfl ?m2 (hd_one x) ?m4 ?m5 ?m6 ?_; (case m2 => intro j u hj; refine ⟨_, rfl, by simp, ?_⟩; rw [Addr.add_lit, Nat.zero_add]; exact hd_cell42 wr x j u hj); (case m4 => unfold maxLen; omega); (case m5 => omega); (case m6 => exact Nat.le_trans hbr.size (by simp; omega)); intro A9 c9 w9 own9 hb9 hc9 hm9 hs9; clear hs9 own)
           have hbb : Below w6.heap.size w6 w9 := ((hbr.alloc hbr.size _).alloc (Nat.le_trans hbr.size (by simp)) _).trans hb9
           go_roundw
           case rel => exact ⟨k + 1, A9, c9, by omega, by go_num, by rw [HR.out, HX.out, List.length_append]; rfl, hbb, by rw [HR.out, HX.out, List.length_append, headsV_append]; simpa [headsV] using own9⟩
           case measure => simp [intOf]; omega)
        | (have HX := Lib.hid (show r' = r from hfs.trans (by rw [hlx]; exact List.append_nil r))
           clear hlx hfs
           go_wp2
           go_roundw
           case rel => exact ⟨k + 1, Al, cl, by omega, by go_num, by rw [HR.out, HX.out], hbr.alloc hbr.size _, by rw [HR.out, HX.out]; exact own.alloc _⟩
           case measure => simp [intOf]; omega)
    · have hfl : l.take k = l := List.take_of_length_le (by rw [hl.out]; omega)
      rw [hfl] at own ⊢
      clear hfl
      have hb1r : Below w1.heap.size w1 wr := hb16.trans (hbr.mono hb16.size)
      replace hs2 := (hs2.below hbr).more hbr.size
      replace hs := (hs.below hbr).more hbr.size
      obtain ⟨A8, c8, e8, hc8, hm8, hs8⟩ := Seen.of_own own
      injection e8 with e8 _ e8c
      subst e8 e8c
      clear own hbr hb16
      have hB := chainOf_any s q hq (l.filter (islink s)) Al _ cl rfl (by omega) wr hs8
      have hlk2 := fun k i => link_place (s := s) (q := q) (l := l.filter (islink s)) (k := k) (i := i)
      have hln2 : (l.filter (islink s)).length ≤ 200 := by
        have h1 := List.length_filter_le (islink s) l
        have h2 := hl.out
        omega
      generalize l.filter (islink s) = links at *
      generalize chain s q links = alone at *
      have HLK2 := Lib.hid hlk2
      have HAB : Hid (alone.length = was.length) := HMT.out.1
      clear hlk2
      have HB := Lib.hid hB
      clear hB
      go_wp2_with fail
      refine HB.out.mono ?_
      clear HB
      rintro e w7 ⟨A7, c7, rfl, hc7, hm7, hs7, hb7⟩
      have hb17 : Below w1.heap.size w1 w7 := hb1r.trans (hb7.mono hb1r.size)
      replace hs2 := (hs2.below hb7).more hb7.size
      replace hs := (hs.below hb7).more hb7.size
      replace hs8 := (hs8.below hb7).more hb7.size
      clear hb7 hb1r
      have hne : ((alone.length : Int) != (was.length : Int)) = false := by
        rw [HAB.out]; simp
      have hal200 : alone.length ≤ 200 := by rw [HAB.out]; exact hwas200
      go_wp2_with fail
      go_loopw [96] (fun i wr => ∃ k : Nat, k ≤ alone.length ∧ i = .int .i64 k ∧ Below w7.heap.size w7 wr) (fun i _ => alone.length - (intOf i).toNat)
      case atStart => exact ⟨0, Nat.zero_le _, rfl, Below.refl _ _⟩
      case round =>
        obtain ⟨k3, hk3, rfl, hb3⟩ := hrel
        by_cases hlt3 : k3 < alone.length
        · have hkb : k3 < was.length := by rw [← HAB.out]; exact hlt3
          have hka' : (k3 : Int) < (alone.length : Int) := by omega
          have hkb' : (k3 : Int) < (was.length : Int) := by omega
          have hk30 : (0 : Int) ≤ (k3 : Int) := by omega
          have hk31 : (k3 : Int) ≤ 200 := by omega
          obtain ⟨b7, o7, rfl, hl7, e7⟩ := (hs7.below hb3).at1 (intsV_at hlt3)
          obtain ⟨b8, o8, rfl, hl8, e8⟩ := (hs2.below hb3).at1 (intsV_at hkb)
          have hil := HLK2.out k3 _ (List.getElem?_eq_getElem hlt3)
          have hjm := HLK.out k3 _ (List.getElem?_eq_getElem hkb)
          have hij := HMT.out.2 k3 _ _ (List.getElem?_eq_getElem hlt3) (List.getElem?_eq_getElem hkb)
          generalize alone[k3] = i at *
          generalize was[k3] = j at *
          rw [List.getElem?_eq_getElem hil, List.getElem?_eq_getElem hjm] at hij
          injection hij with hij
          obtain ⟨b1, o1, rfl, hl1, d0, d1, d2, d3⟩ := (hs8.below hb3).head hil
          obtain ⟨b6, o6, rfl, hl6, g0, g1, g2, g3⟩ := (hs.below hb3).head hjm
          rw [hij] at d0 d1 d2 d3
          have hin : (i : Int) < (links.length : Int) := by omega
          have hjn : (j : Int) < (n : Int) := by rw [← hl.out]; omega
          have hi0' : (0 : Int) ≤ (i : Int) := by omega
          have hj0' : (0 : Int) ≤ (j : Int) := by omega
          clear hij
          generalize l[j] = x at *
          clear hs7 hs8 hs hs2 hil hjm
          go_wp2
          go_quiet (fail)
          go_wp2
          go_roundw
          case rel => exact ⟨k3 + 1, by omega, by go_num, hb3.trans ⟨rfl, rfl, rfl, Nat.le_refl _, fun _ _ => rfl⟩⟩
          case measure => simp [intOf]; omega
        · have hb1r : Below w1.heap.size w1 wr := hb17.trans (hb3.mono hb17.size)
          replace hs2 := (hs2.below hb3).more hb3.size
          replace hs := (hs.below hb3).more hb3.size
          clear hs7 hs8 hb3 hb17 HMT HLK2 HAB hal200
          by_cases hzn : z < 0
          · go_wp2
            go_ret
            exact ⟨rfl, hb.trans (hb1r.mono hb.size)⟩
          · by_cases hzw : (was.length : Int) ≤ z
            · go_wp2
              go_ret
              exact ⟨rfl, hb.trans (hb1r.mono hb.size)⟩
            · obtain ⟨p, rfl⟩ := Int.eq_ofNat_of_zero_le (show 0 ≤ z by omega)
              have hpw : p < was.length := by omega
              have hp0 : (0 : Int) ≤ (p : Int) := by omega
              have hp1 : (p : Int) < (was.length : Int) := by omega
              have hw0 := List.getElem?_eq_getElem hpw
              have hwl := HLK.out p _ hw0
              have hwf := HAT.out p _ hw0
              have hsm := HSAME.out p _ hwf
              have hct := HCUT.out p _ hpw hwf
              obtain ⟨_, hwp, _⟩ := List.findIdx?_eq_some_iff_getElem.1 hwf
              have hwq := (ishit_iff.1 hwp).2
              obtain ⟨bw, ow, hA2, hlw, ew⟩ := hs2.at1 (intsV_at hpw)
              obtain ⟨bl, ol, hAl, hll, f0, f1, f2, f3⟩ := hs.head hwl
              rw [hwq] at f3
              clear f0 f1 f2 hwq hwp hwf hw0
              generalize was[p] = w0 at *
              have HSM := Lib.hid hsm
              have HCT := Lib.hid hct
              have hwn : (w0 : Int) < (n : Int) := by rw [← hl.out]; omega
              have hw00 : (0 : Int) ≤ (w0 : Int) := by omega
              clear hsm hct HSAME HCUT HAT HLK hs2
              subst hA2 hAl
              generalize q + 1 + p = t at *
              obtain ⟨wo, rfl⟩ : ∃ wo : World, wo = wr := ⟨_, rfl⟩
              go_wp2_with fail
              go_loopw [19, 20, 125] (fun v u i wr => ∃ (k : Nat) (Ar : Option Addr) (cr : Nat), k ≤ n ∧ i = .int .i64 k ∧ v = .slice Ar ((l.take k).eraseIdx w0).length cr ∧ u = .int .i64 (((l.take k).eraseIdx w0).countP (ishit s t) : Nat) ∧ Below wo.heap.size wo wr ∧
                  wr.ownsRow wo.heap.size 42 4 (.slice Ar ((l.take k).eraseIdx w0).length cr) ((l.take k).eraseIdx w0).length (headsV ((l.take k).eraseIdx w0))) (fun _ _ i _ => n - (intOf i).toNat)
              case atStart => exact ⟨0, _, 0, Nat.zero_le _, rfl, rfl, rfl, (Below.refl _ _).alloc (Nat.le_refl _) _, own_empty' wo _ 42 4 (Nat.le_refl _)⟩
              case round =>
                obtain ⟨k4, Ar, cr, hk4, rfl, rfl, rfl, hbr, own⟩ := hrel
                by_cases hlt4 : k4 < n
                · have hkl : k4 < l.length := by rw [hl.out]; exact hlt4
                  have hkn : (k4 : Int) < (n : Int) := by omega
                  have hk40 : (0 : Int) ≤ (k4 : Int) := by omega
                  obtain ⟨b', off', e', hbl', d0, d1, d2, d3⟩ := (hs.below hbr).head hkl
                  injection e' with e'
                  injection e' with e1 e2
                  subst e1 e2
                  have ew' := (hbr.cell (p := ⟨bw, ow + p, none⟩) hlw).trans ew
                  have f3' := (hbr.cell (p := ⟨bl, ol + w0 * 4 + 3, none⟩) hll).trans f3
                  have hrk : ((l.take k4).eraseIdx w0).length ≤ 200 ∧ ((l.take k4).eraseIdx w0).countP (ishit s t) ≤ 200 := by
                    have h1 := List.length_eraseIdx_le (l.take k4) w0
                    have h2 := List.countP_le_length (p := ishit s t) (l := (l.take k4).eraseIdx w0)
                    rw [List.length_take] at h1
                    omega
                  obtain ⟨hrk1, hrk2⟩ := hrk
                  by_cases hkw : k4 = w0
                  · have HE := Lib.hid (show (l.take (k4 + 1)).eraseIdx w0 = (l.take k4).eraseIdx w0 by rw [hkw]; exact erase_at l w0 hwl)
                    have hkw' : ((k4 : Int) != (w0 : Int)) = false := by rw [hkw]; simp
                    clear hkw
                    generalize l[k4] = x at d0 d1 d2 d3
                    have ew2 := alloc_cell (.cells #[.int .u8 (x.kind : Int), .int .u32 (x.session : Int), .int .u32 (x.id : Int), .int .u32 (x.seq : Int)] 42) ew'
                    generalize (l.take k4).eraseIdx w0 = r at own hrk1 hrk2 HE ⊢
                    generalize hcn : r.countP (ishit s t) = cn at hrk2 ⊢
                    have HCN := Lib.hid hcn
                    clear hcn
                    go_wp2
                    go_roundw
                    case rel => exact ⟨k4 + 1, Ar, cr, by omega, by go_num, by rw [HE.out], by rw [HE.out, HCN.out], hbr.alloc hbr.size _, by rw [HE.out]; exact own.alloc _⟩
                    case measure => simp [intOf]; omega
                  · have HE := Lib.hid (erase_step l w0 k4 hkl hkw)
                    have hkw' : ((k4 : Int) != (w0 : Int)) = true := by simp; omega
                    clear hkw
                    generalize l[k4] = x at d0 d1 d2 d3 HE
                    generalize (l.take k4).eraseIdx w0 = r at own hrk1 hrk2 HE ⊢
                    generalize hcn : r.countP (ishit s t) = cn at hrk2 ⊢
                    have HCN := Lib.hid hcn
                    clear hcn
                    have ew2 := alloc_cell (.cells #[.int .u8 (x.kind : Int), .int .u32 (x.session : Int), .int .u32 (x.id : Int), .int .u32 (x.seq : Int)] 42) ew'
                    have hcp : (r ++ [x]).countP (ishit s t) = cn + (if ishit s t x = true then 1 else 0) := by
                      rw [List.countP_append, HCN.out, List.countP_singleton]
                    have hhit := hit_parts s t x
                    go_wp2_with (at_builtin; refine wpList_append_seen2 _ rfl (.tmp 136) (.tmp 138) _ rfl wo.heap.size 42 i0 _ 4 16 Try.underlying32 hi hz0 hz1 hz2 rfl (by omega) _ r.length (headsV r) rfl ((own.alloc _).alloc _) ⟨wr.heap.size + 1, 0, none⟩ 1 1 (hd x) rfl rfl ?m2 (hd_one x) ?m4 ?m5 ?m6 ?_; (case m2 => intro j u hj; rw [Addr.add_lit, Nat.zero_add]; exact hd_cell42 wr x j u hj); (case m4 => unfold maxLen; omega); (case m5 => omega); (case m6 => exact Nat.le_trans hbr.size (by simp; omega)); intro A9 c9 w9 own9 hg9)
                    have hb9 : Below wo.heap.size ((wr.alloc (.cells #[.int .u8 (x.kind : Int), .int .u32 (x.session : Int), .int .u32 (x.id : Int), .int .u32 (x.seq : Int)] 42)).alloc (.cells #[.int .u8 (x.kind : Int), .int .u32 (x.session : Int), .int .u32 (x.id : Int), .int .u32 (x.seq : Int)] 42)) w9 :=
                      (Below.refl _ _).grown hg9 (Nat.le_trans hbr.size (by simp; omega)) (fun k hk => (own.lt k hk).1)
                    have hbb : Below wo.heap.size wo w9 := ((hbr.alloc hbr.size _).alloc (Nat.le_trans hbr.size (by simp)) _).trans hb9
                    have hblk : w9.heap[wr.heap.size]? = some (.cells #[.int .u8 (x.kind : Int), .int .u32 (x.session : Int), .int .u32 (x.id : Int), .int .u32 (x.seq : Int)] 42 (0, 0)) :=
                      (hg9.block wr.heap.size (by simp; omega) (fun e => by have := (own.lt _ e.symm).2; omega)).trans ((Below.heap_alloc _ _ _ (by simp)).trans (heap_alloc_new _ _))
                    have x0 : w9.cell? ⟨wr.heap.size, 0, none⟩ = some (.int .u8 (x.kind : Int)) := (cell_of_row _ _ _ _ _ _ hblk).trans rfl
                    have x1 : w9.cell? ⟨wr.heap.size, 1, none⟩ = some (.int .u32 (x.session : Int)) := (cell_of_row _ _ _ _ _ _ hblk).trans rfl
                    have x3 : w9.cell? ⟨wr.heap.size, 3, none⟩ = some (.int .u32 (x.seq : Int)) := (cell_of_row _ _ _ _ _ _ hblk).trans rfl
                    have ew9 := (hbb.cell (p := ⟨bw, ow + p, none⟩) hlw).trans ew
                    have f39 := (hbb.cell (p := ⟨bl, ol + w0 * 4 + 3, none⟩) hll).trans f3
                    clear hblk hb9 hg9 own d0 d1 d2 d3 ew' ew2 f3'
                    cases e3 : ((x.session : Int) == (s : Int)) with
                    | false =>
                      have HC := Lib.hid (show (r ++ [x]).countP (ishit s t) = cn by rw [hcp, hhit _ _ _ _ rfl rfl e3 rfl]; simp)
                      clear hcp hhit
                      · go_wp2
                        go_quiet (fail)
                        go_wp2
                        go_roundw
                        case rel => exact ⟨k4 + 1, A9, c9, by omega, by go_num, by rw [HE.out, List.length_append]; rfl, by rw [HE.out, HC.out], hbb.trans ⟨rfl, rfl, rfl, Nat.le_refl _, fun _ _ => rfl⟩, by rw [HE.out, List.length_append, headsV_append]; exact own_more own9 _⟩
                        case measure => simp [intOf]; omega
                    | true =>
                      cases e4 : ((x.seq : Int) == (t : Int)) with
                      | false =>
                        have HC := Lib.hid (show (r ++ [x]).countP (ishit s t) = cn by rw [hcp, hhit _ _ _ _ rfl rfl e3 e4]; simp)
                        clear hcp hhit
                        go_wp2
                        go_quiet (fail)
                        go_wp2
                        go_roundw
                        case rel => exact ⟨k4 + 1, A9, c9, by omega, by go_num, by rw [HE.out, List.length_append]; rfl, by rw [HE.out, HC.out], hbb.trans ⟨rfl, rfl, rfl, Nat.le_refl _, fun _ _ => rfl⟩, by rw [HE.out, List.length_append, headsV_append]; exact own_more own9 _⟩
                        case measure => simp [intOf]; omega
                      | true =>
                        cases e1 : ((x.kind : Int) == 1) with
                        | true =>
                          have HC := Lib.hid (show (r ++ [x]).countP (ishit s t) = cn + 1 by rw [hcp, hhit _ _ _ _ e1 rfl e3 e4]; simp)
                          clear hcp hhit
                          · go_wp2
                            go_quiet (fail)
                            go_wp2
                            go_roundw
                            case rel => exact ⟨k4 + 1, A9, c9, by omega, by go_num, by rw [HE.out, List.length_append]; rfl, by rw [HE.out, HC.out]; go_num, hbb.trans ⟨rfl, rfl, rfl, Nat.le_refl _, fun _ _ => rfl⟩, by rw [HE.out, List.length_append, headsV_append]; exact own_more own9 _⟩
                            case measure => simp [intOf]; omega
                        | false =>
                          cases e2 : ((x.kind : Int) == 2) with
                          | true =>
                            have HC := Lib.hid (show (r ++ [x]).countP (ishit s t) = cn + 1 by rw [hcp, hhit _ _ _ _ e1 e2 e3 e4]; simp)
                            clear hcp hhit
                            · go_wp2
                              go_quiet (fail)
                              go_wp2
                              go_roundw
                              case rel => exact ⟨k4 + 1, A9, c9, by omega, by go_num, by rw [HE.out, List.length_append]; rfl, by rw [HE.out, HC.out]; go_num, hbb.trans ⟨rfl, rfl, rfl, Nat.le_refl _, fun _ _ => rfl⟩, by rw [HE.out, List.length_append, headsV_append]; exact own_more own9 _⟩
                              case measure => simp [intOf]; omega
                          | false =>
                            have HC := Lib.hid (show (r ++ [x]).countP (ishit s t) = cn by rw [hcp, hhit _ _ _ _ e1 e2 e3 e4]; simp)
                            clear hcp hhit
                            · go_wp2
                              go_quiet (fail)
                              go_wp2
                              go_roundw
                              case rel => exact ⟨k4 + 1, A9, c9, by omega, by go_num, by rw [HE.out, List.length_append]; rfl, by rw [HE.out, HC.out], hbb.trans ⟨rfl, rfl, rfl, Nat.le_refl _, fun _ _ => rfl⟩, by rw [HE.out, List.length_append, headsV_append]; exact own_more own9 _⟩
                              case measure => simp [intOf]; omega
                · have hfl : l.take k4 = l := List.take_of_length_le (by rw [hl.out]; omega)
                  rw [hfl] at own ⊢
                  clear hfl
                  have hb1w : Below w1.heap.size w1 wr := hb1r.trans (hbr.mono hb1r.size)
                  obtain ⟨A8, c8, e8, hc8', hm8', hs8⟩ := Seen.of_own own
                  injection e8 with e8 _ e8c
                  subst e8 e8c
                  clear own hbr ew f3
                  have hrl : (l.eraseIdx w0).length ≤ 200 := by
                    have h1 := List.length_eraseIdx_le l w0
                    have h2 := hl.out
                    omega
                  have hB := chainOf_any s q hq (l.eraseIdx w0) Ar _ cr rfl (by unfold maxLen; omega) wr hs8
                  generalize l.eraseIdx w0 = rest at *
                  generalize chain s q rest = cut at *
                  generalize rest.countP (ishit s t) = cn at *
                  have HB := Lib.hid hB
                  clear hB
                  rcases Nat.eq_zero_or_pos cn with h0 | h0
                  · have HL := Lib.hid (HCT.out h0)
                    have t1 : decide ((0 : Int) < (cn : Int)) = false := by simp; omega
                    have t1' : decide (0 < cn) = false := by simp; omega
                    have t2 : ((cn : Int) == 0) = true := by simp; omega
                    have t3 : ((cut.length : Int) == (p : Int)) = true := by rw [HL.out]; simp
                    clear h0
                    go_wp2_with fail
                    refine HB.out.mono ?_
                    rintro e w8 ⟨A9, c9, rfl, hc9, hm9, hs9, hb8⟩
                    go_wp2
                    go_ret
                    exact ⟨rfl, hb.trans ((hb1w.trans (hb8.mono hb1w.size)).mono hb.size)⟩
                  · have HL := Lib.hid (HSM.out h0)
                    have t1 : decide ((0 : Int) < (cn : Int)) = true := by simp; omega
                    have t1' : decide (0 < cn) = true := by simp; omega
                    have t3 : ((cut.length : Int) == (was.length : Int)) = true := by rw [HL.out]; simp
                    go_wp2_with fail
                    refine HB.out.mono ?_
                    rintro e w8 ⟨A9, c9, rfl, hc9, hm9, hs9, hb8⟩
                    go_wp2
                    go_ret
                    exact ⟨rfl, hb.trans ((hb1w.trans (hb8.mono hb1w.size)).mono hb.size)⟩

set_option maxRecDepth 100000 in
theorem chainMore_any (s q : Nat) (hq : q ≤ last) (l more : List Hd) (A D : Option Addr) (n c n' c' : Nat) (hl : l.length = n) (hc : n ≤ c) (hmax : c ≤ maxLen) (hl' : more.length = n') (z : Int) (w : World)
    (hs : Seen w w.heap.size A (headsV l)) (hs' : Seen w w.heap.size D (headsV more)) :
    Calls Try.prog 9 #[.int .u32 (s : Int), .int .u32 (q : Int), .slice A n c, .slice D n' c', .int .i64 z] w fun e w' => e = .returned (.bool true) ∧ Below w.heap.size w w' := by
  by_cases h : (200 : Int) < (n : Int)
  · clear hs hs' hl hl'
    go_enter Try.func9, Try.ntmps9
    go_wp2_with (go_at_call 20; refine (chainAwake_any _).mono ?_; rintro e w1 ⟨rfl, hb⟩)
    go_ret
    exact ⟨rfl, hb⟩
  · by_cases h1 : (200 : Int) < (n' : Int)
    · clear hs hs' hl hl'
      go_enter Try.func9, Try.ntmps9
      go_wp2_with (go_at_call 20; refine (chainAwake_any _).mono ?_; rintro e w1 ⟨rfl, hb⟩)
      go_ret
      exact ⟨rfl, hb⟩
    · exact chainMore_main s q hq l more A D n c n' c' hl hc hmax h hl' h1 z w hs hs'
end Go.Proofs.Ytnobgbndgjfiaaa
