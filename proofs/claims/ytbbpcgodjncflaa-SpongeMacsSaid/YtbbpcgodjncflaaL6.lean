/-
  A part of the proofs of this seat: laws of the walk, or contracts of the functions that the statements reach. No conditions but those that each theorem names.
-/
import Derived.Test.YtbbpcgodjncflaaLi
namespace Go.Proofs.Ytbbpcgodjncflaa
open Go.RowKit Go.Sp
set_option maxRecDepth 100000 in
set_option maxHeartbeats 2000000 in
theorem macs_main (kv av bv cv : Value) (key as_ bs cs_ : List UInt8) (n : Int) (w : World) (hk : Byt w kv key) (ha : Byt w av as_) (hb : Byt w bv bs) (hc : Byt w cv cs_) (hn : -9223372036854775808 ≤ n ∧ n ≤ 9223372036854775807) (h0 : key.length ≤ 100) (h1 : as_.length ≤ 100) (h2 : bs.length ≤ 100) (h3 : cs_.length ≤ 100) :
    Calls Try.prog 6 #[kv, av, bv, cv, .int .i64 n] w fun e w' => e = .returned (.bool true) ∧ Below w.heap.size w w' := by
  have HK := Lib.hid hk
  have HA := Lib.hid ha
  have HB := Lib.hid hb
  have HC := Lib.hid hc
  obtain ⟨ka, kc, rfl, hkc, hkm⟩ := hk.len
  obtain ⟨aa, ac, rfl, hac, ham⟩ := ha.len
  obtain ⟨ba, bc, rfl, hbc, hbm⟩ := hb.len
  obtain ⟨ca, cc, rfl, hcc, hcm⟩ := hc.len
  unfold maxLen at hkm ham hbm hcm
  clear hk ha hb hc
  have h0' : ¬ ((100 : Int) < (key.length : Int)) := by omega
  have h1' : ¬ ((100 : Int) < (as_.length : Int)) := by omega
  have h2' : ¬ ((100 : Int) < (bs.length : Int)) := by omega
  have h3' : ¬ ((100 : Int) < (cs_.length : Int)) := by omega
  go_enter Try.func6, Try.ntmps6
  go_wp2_with fail
  refine (known_any _).mono ?_
  rintro _ w1 ⟨rfl, hbw⟩
  go_wp2_with fail
  refine (within_nat n 4 hn (by decide) (by decide) _).mono ?_
  rintro _ wx ⟨q, rfl, -, hq, rfl⟩
  have hq' : q ≤ 3 := by omega
  clear hq
  go_wp2_with (refine (show wpList _ _ _ (⟨some 38, .slice 39 (.tmp 35) none (some (.tmp 37)) none, _, _, _, _⟩ :: _) _ _ from stop_here ?_))
  refine Stop.go (wpList_val rfl (r_slH (hi := q) sl1_39 rfl rfl (by omega)) ?_)
  have hL : Lst (w1.alloc (.cells #[.slice aa as_.length ac, .slice ba bs.length bc, .slice ca cs_.length cc] 29)) (cutV (some ⟨w1.heap.size, 0, none⟩) 3 0 q) ([as_, bs, cs_].take q) := (Lst.three (t := 29) (HA.out.ext hbw) (HB.out.ext hbw) (HC.out.ext hbw)).cut q (by simpa using hq')
  have hbw2 := hbw.alloc hbw.size (.cells #[.slice aa as_.length ac, .slice ba bs.length bc, .slice ca cs_.length cc] 29)
  have hll : ∀ l ∈ [as_, bs, cs_].take q, l.length ≤ 100 := fun l hl => by
    have := List.mem_of_mem_take hl
    simp at this
    rcases this with e | e | e <;> rw [e] <;> assumption
  have hfl : (flat ([as_, bs, cs_].take q)).length ≤ 549755813888 := by
    have := flat_le100 _ 100 hll
    have h4 : ([as_, bs, cs_].take q).length ≤ 3 := by simp; omega
    omega
  have hll2 : ∀ l ∈ [as_, bs, cs_].take q, l.length ≤ 549755813888 := fun l hl => by have := hll l hl; omega
  have HLL := Lib.hid hll2
  have HFL := Lib.hid hfl
  clear hll hll2 hfl hbw
  generalize w1.alloc (.cells #[.slice aa as_.length ac, .slice ba bs.length bc, .slice ca cs_.length cc] 29) = w2 at *
  generalize [as_, bs, cs_].take q = ls at *
  generalize cutV (some ⟨w1.heap.size, 0, none⟩) 3 0 q = lv at *
  have hlv : ∃ a n c, lv = .slice a n c := by
    rcases hL with ⟨rfl, _⟩ | ⟨_, _, _, rfl, _⟩ <;> exact ⟨_, _, _, rfl⟩
  obtain ⟨la, ln, lc, rfl⟩ := hlv
  have hM := macB_length key ls
  have hO := macB_length [] ls
  obtain ⟨A1, hA1⟩ : ∃ O, O = ((macB key ls).map B).toArray := ⟨_, rfl⟩
  obtain ⟨A2, hA2⟩ : ∃ O, O = ((macB [] ls).map B).toArray := ⟨_, rfl⟩
  have heq1 : ∀ w, (binOp .eql 35 (.agg A1) (.agg A1)).run Try.prog w = .ok (.bool true) w := by rw [hA1]; exact eq35 _ hM
  have heq2 : ∀ w, (binOp .eql 35 (.agg A2) (.agg A2)).run Try.prog w = .ok (.bool true) w := by rw [hA2]; exact eq35 _ hO
  have hgd : ∀ x y A A' w, (eqGuard .eql 35 x y (.agg A) (.agg A')).run Try.prog w = .ok () w := fun x y A A' w => gd35 _ _ _ _ _ _
  have H1 := Lib.hid hA1
  have H2 := Lib.hid hA2
  clear hM hO hA1 hA2
  go_wp2_with fail
  refine (mac_any _ _ key ls _ (HK.out.ext hbw2) hL (by omega) HLL.out).mono ?_
  rintro _ w3 ⟨rfl, hb3⟩
  rw [← H1.out]
  have hL3 := hL.ext hb3
  have hbw3 := hbw2.trans (hb3.mono hbw2.size)
  clear hL hbw2 hb3
  go_wp2_with fail
  refine (rmac_any _ _ key ls _ (HK.out.ext hbw3) (by omega) hL3 HFL.out).mono ?_
  rintro _ w4 ⟨rfl, hb4⟩
  rw [← H1.out]
  have hL4 := hL3.ext hb4
  have hbw4 := hbw3.trans (hb4.mono hbw3.size)
  clear hL3 hbw3 hb4
  go_wp2_with fail
  refine (of_any _ ls _ hL4 HLL.out).mono ?_
  rintro _ w5 ⟨rfl, hb5⟩
  rw [← H2.out]
  have hL5 := hL4.ext hb5
  have hbw5 := hbw4.trans (hb5.mono hbw4.size)
  clear hL4 hbw4 hb5
  go_wp2_with fail
  refine (rof_any _ ls _ hL5 HFL.out).mono ?_
  rintro _ w6 ⟨rfl, hb6⟩
  rw [← H2.out]
  have hL6 := hL5.ext hb6
  have hbw6 := hbw5.trans (hb6.mono hbw5.size)
  clear hL5 hbw5 hb6
  go_wp2_with fail
  refine (of_any _ ls _ hL6 HLL.out).mono ?_
  rintro _ w7 ⟨rfl, hb7⟩
  rw [← H2.out]
  have hL7 := hL6.ext hb7
  have hbw7 := hbw6.trans (hb7.mono hbw6.size)
  clear hL6 hbw6 hb7
  go_wp2_with fail
  refine (mac_any _ _ [] ls _ (Byt.nil _) hL7 (by simp) HLL.out).mono ?_
  rintro _ w8 ⟨rfl, hb8⟩
  rw [← H2.out]
  have hL8 := hL7.ext hb8
  have hbw8 := hbw7.trans (hb8.mono hbw7.size)
  clear hL7 hbw7 hb8
  go_wp2
  go_ret
  exact ⟨rfl, hbw8⟩
set_option maxRecDepth 100000 in
set_option maxHeartbeats 2000000 in
theorem macs_any (kv : Value) (key : List UInt8) (av : Value) (as_ : List UInt8) (bv : Value) (bs : List UInt8) (cv : Value) (cs_ : List UInt8) (n : Int) (w : World) (hk : Byt w kv key) (ha : Byt w av as_) (hb : Byt w bv bs) (hc : Byt w cv cs_) (hn : -9223372036854775808 ≤ n ∧ n ≤ 9223372036854775807) :
    Calls Try.prog 6 #[kv, av, bv, cv, .int .i64 n] w fun e w' => e = .returned (.bool true) ∧ Below w.heap.size w w' := by
  by_cases h : key.length ≤ 100 ∧ as_.length ≤ 100 ∧ bs.length ≤ 100 ∧ cs_.length ≤ 100
  · exact macs_main kv av bv cv key as_ bs cs_ n w hk ha hb hc hn h.1 h.2.1 h.2.2.1 h.2.2.2
  · obtain ⟨ka, kc, rfl, _, hkm⟩ := hk.len
    obtain ⟨aa, ac, rfl, _, ham⟩ := ha.len
    obtain ⟨ba, bc, rfl, _, hbm⟩ := hb.len
    obtain ⟨ca, cc, rfl, _, hcm⟩ := hc.len
    unfold maxLen at hkm ham hbm hcm
    clear hk ha hb hc
    have hh : ((100 : Int) < (key.length : Int)) ∨ (¬ ((100 : Int) < (key.length : Int)) ∧ ((100 : Int) < (as_.length : Int))) ∨ (¬ ((100 : Int) < (key.length : Int)) ∧ ¬ ((100 : Int) < (as_.length : Int)) ∧ ((100 : Int) < (bs.length : Int))) ∨ (¬ ((100 : Int) < (key.length : Int)) ∧ ¬ ((100 : Int) < (as_.length : Int)) ∧ ¬ ((100 : Int) < (bs.length : Int)) ∧ ((100 : Int) < (cs_.length : Int))) := by omega
    clear h
    rcases hh with h0 | ⟨h0, h1⟩ | ⟨h0, h1, h2⟩ | ⟨h0, h1, h2, h3⟩
    all_goals
      go_enter Try.func6, Try.ntmps6
      go_wp2_with fail
      refine (known_any _).mono ?_
      rintro _ w1 ⟨rfl, hb1⟩
      go_wp2
      go_ret
      exact ⟨rfl, hb1⟩
end Go.Proofs.Ytbbpcgodjncflaa
