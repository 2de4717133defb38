/- The law ChainLinks returns true and leaves all memory that was there as it was: for every session, Seq and list of heads. -/
import Derived.Test.YtnobgbndgjfiaaaChainAwake
namespace Go.Proofs.Ytnobgbndgjfiaaa
open Go.RowKit ChainPure

theorem link_of {s q : Nat} {l : List Hd} {k i : Nat} (h : (chain s q l)[k]? = some i) : ∃ hi : i < l.length, l[i].session = s ∧ l[i].seq = q + 1 + k ∧ (l[i].kind = 1 ∨ l[i].kind = 2) := by
  obtain ⟨hi, hp, _⟩ := List.findIdx?_eq_some_iff_getElem.1 (ch_at h)
  obtain ⟨h1, h2⟩ := ishit_iff.1 hp
  simp [islink] at h1
  exact ⟨hi, h1.2, h2, h1.1⟩
/-- Behind the last link there is none. -/
theorem no_link {s q : Nat} (hq : q ≤ last) {l : List Hd} (hok : ∀ x ∈ l, x.ok) : ∀ x ∈ l, islink s x = true → x.seq ≠ q + (chain s q l).length + 1 := by
  intro x hx hl he
  have h1 := ch_le (s := s) (l := l) (last - q) q
  by_cases h : (chain s q l).length < last - q
  · have := ch_end (s := s) (l := l) (f := last - q) (q := q) h
    rw [List.findIdx?_eq_none_iff] at this
    have h2 := this x hx
    rw [show q + 1 + (ch s l (last - q) q).length = q + (chain s q l).length + 1 by unfold chain; omega] at h2
    simp [ishit, hl] at h2
    exact h2 he
  · have h3 := (hok x hx).2.2.2
    unfold chain at *
    unfold last at *
    omega

set_option maxHeartbeats 2000000 in
theorem chainLinks_main (s q : Nat) (hq : q ≤ last) (l : List Hd) (A : Option Addr) (n c : Nat) (hl : Hid (l.length = n)) (hok : ∀ x ∈ l, x.ok) (hmax : n ≤ maxLen) (h : ¬ (200 : Int) < (n : Int)) (w : World) (hs : Seen w w.heap.size A (headsV l)) :
    Calls Try.prog 8 #[.int .u32 (s : Int), .int .u32 (q : Int), .slice A n c] w fun e w' => e = .returned (.bool true) ∧ Below w.heap.size w w' := by
  have hqb : (q : Int) ≤ 4294967295 := by unfold last at hq; omega
  have HNO := Lib.hid (no_link (s := s) hq hok)
  go_enter Try.func8, Try.ntmps8
  go_wp2_with fail
  refine (chainAwake_any _).mono ?_
  rintro e w1 ⟨rfl, hb⟩
  have hs1 := (hs.below hb).more hb.size
  clear hs
  go_wp2_with fail
  refine (chainOf_any s q hq l A n c hl.out hmax _ hs1).mono ?_
  rintro e w2 ⟨A2, c2, rfl, hc2, hm2, hs2, hb2⟩
  have hs12 := (hs1.below hb2).more hb2.size
  have hb02 := hb.trans (hb2.mono hb.size)
  clear hs1
  have hlk := fun k i => link_of (s := s) (q := q) (l := l) (k := k) (i := i)
  have HLK := Lib.hid hlk
  have hlen : (chain s q l).length ≤ n := by rw [← hl.out]; exact ch_length _ _
  have hn200 : n ≤ 200 := by omega
  clear hlk
  generalize chain s q l = r at *
  generalize hrl : r.length = rn at *
  have HRL := Lib.hid hrl
  clear hrl
  go_wp2
  go_loop [7, 24] (fun a i => ∃ k t : Nat, k ≤ rn ∧ i = .int .i64 k ∧ Hid (t = q + k) ∧ a = .int .u64 (t : Int)) (fun _ i => rn - (intOf i).toNat)
  case atStart => exact ⟨0, q, Nat.zero_le _, rfl, rfl, rfl⟩
  case round =>
    obtain ⟨k, t, hk, rfl, ht, rfl⟩ := hrel
    have htb : (t : Int) ≤ 5000000000 := by
      have := ht.out
      omega
    by_cases hlt : k < rn
    · have hkr : k < r.length := by rw [HRL.out]; exact hlt
      have hkn : (k : Int) < (rn : Int) := by omega
      obtain ⟨b2, o2, rfl, hl2, e2⟩ := hs2.at1 (intsV_at hkr)
      obtain ⟨hil, h1, h2, h3⟩ := HLK.out k _ (List.getElem?_eq_getElem hkr)
      obtain ⟨b, off, rfl, hbl, d0, d1, d2, d3⟩ := hs12.head hil
      generalize r[k] = i at *
      have hin : (i : Int) < (n : Int) := by rw [← hl.out]; omega
      have hi0 : (0 : Int) ≤ (i : Int) := by omega
      rw [h1] at d1
      rw [show ((l[i].seq : Nat) : Int) = (t : Int) + 1 by rw [h2]; have := ht.out; omega] at d3
      clear h1 h2 hs2 hs12 d2
      have ht1 : Hid (t + 1 = q + (k + 1)) := by
        have := ht.out
        show t + 1 = q + (k + 1)
        omega
      rcases h3 with h3 | h3
      all_goals
        rw [h3] at d0
        clear h3
        go_wp2
        go_round
        case rel => exact ⟨k + 1, t + 1, by omega, by go_num, ht1, by go_num⟩
        case measure => simp [intOf]; omega
    · have ht1 : Hid (t = q + rn) := by
        have := ht.out
        show t = q + rn
        omega
      clear ht hs2 HLK hm2 hc2
      have HS := Lib.hid hs12
      clear hs12
      obtain ⟨wb, hwb⟩ : ∃ wb : World, wb = w2 := ⟨_, rfl⟩
      have HW := Lib.hid hwb
      clear hwb
      go_wp2
      go_loopw [76] (fun i wr => ∃ k : Nat, k ≤ n ∧ i = .int .i64 k ∧ Below w2.heap.size w2 wr) (fun i _ => n - (intOf i).toNat)
      case atStart => exact ⟨0, Nat.zero_le _, rfl, Below.refl _ _⟩
      case round =>
        obtain ⟨k2, hk2, rfl, hbr⟩ := hrel
        by_cases hlt2 : k2 < n
        · have hkl : k2 < l.length := by rw [hl.out]; exact hlt2
          have hkn : (k2 : Int) < (n : Int) := by omega
          obtain ⟨b, off, rfl, hbl, d0, d1, d2, d3⟩ := (HS.out.below hbr).head hkl
          have hx := hok _ (List.getElem_mem hkl)
          have hno := HNO.out _ (List.getElem_mem hkl)
          generalize l[k2] = x at d0 d1 d2 d3 hx hno
          have hno' : ((((x.session : Int) == (s : Int)) && (((x.kind : Int) == 1) || ((x.kind : Int) == 2))) && ((x.seq : Int) == (t : Int) + 1)) = false := by
            rw [Bool.eq_false_iff]
            intro he
            simp only [Bool.and_eq_true, Bool.or_eq_true, beq_iff_eq] at he
            refine hno ?_ ?_
            · simp only [islink, Bool.and_eq_true, Bool.or_eq_true, beq_iff_eq]
              omega
            · have := ht1.out
              omega
          have hsq : (x.seq : Int) ≤ 5000000000 := by
            have := hx.2.2.2
            omega
          clear hno hx
          generalize e1 : ((x.kind : Int) == 1) = b1 at hno'
          generalize e2 : ((x.kind : Int) == 2) = b2 at hno'
          generalize e3 : ((x.session : Int) == (s : Int)) = b3 at hno'
          generalize e4 : ((x.seq : Int) == (t : Int) + 1) = b4 at hno'
          cases b1 <;> cases b2 <;> cases b3 <;> cases b4
          all_goals first | (cases hno'; done) | clear hno'
          all_goals
            go_wp2
            go_roundw
            case rel => exact ⟨k2 + 1, by omega, by go_num, hbr.alloc hbr.size _⟩
            case measure => simp [intOf]; omega
        · go_wp2
          go_ret
          exact ⟨rfl, hb02.trans (hbr.mono hb02.size)⟩

theorem chainLinks_any (s q : Nat) (hq : q ≤ last) (l : List Hd) (A : Option Addr) (n c : Nat) (hl : l.length = n) (hok : ∀ x ∈ l, x.ok) (hmax : n ≤ maxLen) (w : World) (hs : Seen w w.heap.size A (headsV l)) :
    Calls Try.prog 8 #[.int .u32 (s : Int), .int .u32 (q : Int), .slice A n c] w fun e w' => e = .returned (.bool true) ∧ Below w.heap.size w w' := by
  by_cases h : (200 : Int) < (n : Int)
  · clear hs hl hok
    go_enter Try.func8, Try.ntmps8
    go_wp2_with (go_at_call 20; refine (chainAwake_any _).mono ?_; rintro e w1 ⟨rfl, hb⟩)
    go_ret
    exact ⟨rfl, hb⟩
  · exact chainLinks_main s q hq l A n c hl hok hmax h w hs
end Go.Proofs.Ytnobgbndgjfiaaa
