/-
  A part of the proofs of this seat: laws of the walk, or contracts of the functions that the statements reach. No conditions but those that each theorem names.
-/
import Derived.Test.YtbbpcgodjncflaaL11
import Derived.Test.YtbbpcgodjncflaaAp
namespace Go.Proofs.Ytbbpcgodjncflaa
open Go.RowKit Go.Sp
set_option maxRecDepth 100000 in
set_option maxHeartbeats 2000000 in
theorem keys_main (kv bv : Value) (key b : List UInt8) (n : Int) (w : World) (hk : Byt w kv key) (hb : Byt w bv b) (hn : -9223372036854775808 ≤ n ∧ n ≤ 9223372036854775807) (h0 : key.length ≤ 60) (h1 : b.length ≤ 100) :
    Calls Try.prog 12 #[kv, .int .i64 n, bv] w fun e w' => e = .returned (.bool true) ∧ Below w.heap.size w w' := by
  have HK := Lib.hid hk
  have HB := Lib.hid hb
  obtain ⟨ka, kc, rfl, hkc, hkm⟩ := hk.len
  obtain ⟨ba, bc, rfl, hbc, hbm⟩ := hb.len
  unfold maxLen at hkm hbm
  clear hk hb
  have h0' : ¬ ((60 : Int) < (key.length : Int)) := by omega
  have h1' : ¬ ((100 : Int) < (b.length : Int)) := by omega
  go_enter Try.func12, Try.ntmps12
  go_wp2_with fail
  refine (known_any _).mono ?_
  rintro _ w1 ⟨rfl, hbw1⟩
  go_wp2_with (at_builtin; refine stop_here ?_)
  refine Stop.go (wpList_append_byt rfl rfl byt29 (Own.lit 5 w1.heap.size w1 [] (Nat.le_refl _) (by simp)) ((HK.out.ext hbw1).ext ((Below.refl _ _).alloc (Nat.le_refl _) _)) rfl rfl (by simp; omega) (by simp) ?_)
  intro v w2 ho2 hg2 _
  rw [List.nil_append] at ho2
  have hb2 : Below w1.heap.size w1 w2 := ((Below.refl _ _).alloc (Nat.le_refl _) _).trans (toBelow hg2 (by simp) (by simp [Value.ownBlock]))
  have hbw2 := hbw1.trans (hb2.mono hbw1.size)
  have hs2 := hb2.size
  have hs1 := hbw1.size
  clear hg2 hbw1 hb2
  obtain ⟨va, vc, rfl, _, hvm⟩ := ho2.byt.len
  unfold maxLen at hvm
  go_wp2_with fail
  refine (within_nat n 20 hn (by decide) (by decide) _).mono ?_
  rintro _ wx ⟨q, rfl, -, hq, rfl⟩
  have hq' : q < 20 := by omega
  clear hq
  go_wp2_with (at_builtin; refine stop_here ?_)
  refine Stop.go (wpList_append_zeros rfl rfl byt29 Try.underlying3 ho2 rfl rfl (by omega) hs2 ?_)
  intro v w3 ho3 hg3
  have hb3 : Below w1.heap.size w2 w3 := toBelow hg3 hs2 (fun k hk => (ho2.lt k hk).1)
  have hbw3 := hbw2.trans (hb3.mono hs1)
  obtain ⟨kk, hkk⟩ : ∃ l, l = key ++ List.replicate q 0 := ⟨_, rfl⟩
  have hkl : kk.length = key.length + q := by rw [hkk]; simp
  rw [← hkk] at ho3
  have hk3 := ho3.byt
  clear hkk ho3 hg3 hb3 hbw2 ho2 hvm hs2 hs1
  obtain ⟨ua, uc, rfl, huc, hum⟩ := hk3.len
  unfold maxLen at hum
  have HKL := Lib.hid hkl
  clear hkl
  obtain ⟨A1, hA1⟩ : ∃ O, O = ((macB kk [b]).map B).toArray := ⟨_, rfl⟩
  obtain ⟨A2, hA2⟩ : ∃ O, O = ((macB key [b]).map B).toArray := ⟨_, rfl⟩
  obtain ⟨A3, hA3⟩ : ∃ O, O = ((macB [] [b, key]).map B).toArray := ⟨_, rfl⟩
  have heq1 : ∀ w, (binOp .eql 35 (.agg A1) (.agg A1)).run Try.prog w = .ok (.bool true) w := by rw [hA1]; exact eq35 _ (macB_length _ _)
  have heq2 : ∀ w, (binOp .eql 35 (.agg A2) (.agg A2)).run Try.prog w = .ok (.bool true) w := by rw [hA2]; exact eq35 _ (macB_length _ _)
  have heq3 : ∀ w, (binOp .eql 35 (.agg A3) (.agg A3)).run Try.prog w = .ok (.bool true) w := by rw [hA3]; exact eq35 _ (macB_length _ _)
  have hgd : ∀ x y A A' w, (eqGuard .eql 35 x y (.agg A) (.agg A')).run Try.prog w = .ok () w := fun x y A A' w => gd35 _ _ _ _ _ _
  have H1 := Lib.hid hA1
  have H2 := Lib.hid hA2
  have H3 := Lib.hid hA3
  clear hA1 hA2 hA3
  go_wp2_with fail
  have ha4 := (Below.refl w3.heap.size w3).alloc (Nat.le_refl _) (.cells #[.slice ba b.length bc] 29)
  have hk4x := hk3.ext ha4
  have hK4x := (HK.out.ext hbw3).ext ha4
  refine (mac_any _ _ kk [b] _ hk4x (Lst.one (HB.out.ext hbw3)) (by have := HKL.out; omega) (len1 (by omega))).mono ?_
  rintro _ w4 ⟨rfl, hb4⟩
  rw [← H1.out]
  have hbb4 := ha4.trans (hb4.mono ha4.size)
  have hk4 := hk3.ext hbb4
  have hbw4 := hbw3.trans (hbb4.mono hbw3.size)
  clear hk3 hbw3 hk4x hK4x ha4 hb4 hbb4
  go_wp2_with fail
  have ha5 := (Below.refl w4.heap.size w4).alloc (Nat.le_refl _) (.cells #[.slice ba b.length bc] 29)
  have hk5x := hk4.ext ha5
  have hK5x := (HK.out.ext hbw4).ext ha5
  refine (rmac_any _ _ kk [b] _ hk5x (by have := HKL.out; omega) (Lst.one (HB.out.ext hbw4)) (by rw [flat1]; omega)).mono ?_
  rintro _ w5 ⟨rfl, hb5⟩
  rw [← H1.out]
  have hbb5 := ha5.trans (hb5.mono ha5.size)
  have hk5 := hk4.ext hbb5
  have hbw5 := hbw4.trans (hbb5.mono hbw4.size)
  clear hk4 hbw4 hk5x hK5x ha5 hb5 hbb5
  go_wp2_with fail
  have ha6 := (Below.refl w5.heap.size w5).alloc (Nat.le_refl _) (.cells #[.slice ba b.length bc] 29)
  have hk6x := hk5.ext ha6
  have hK6x := (HK.out.ext hbw5).ext ha6
  refine (mac_any _ _ key [b] _ hK6x (Lst.one (HB.out.ext hbw5)) (by omega) (len1 (by omega))).mono ?_
  rintro _ w6 ⟨rfl, hb6⟩
  rw [← H2.out]
  have hbb6 := ha6.trans (hb6.mono ha6.size)
  have hk6 := hk5.ext hbb6
  have hbw6 := hbw5.trans (hbb6.mono hbw5.size)
  clear hk5 hbw5 hk6x hK6x ha6 hb6 hbb6
  go_wp2_with fail
  have ha7 := (Below.refl w6.heap.size w6).alloc (Nat.le_refl _) (.cells #[.slice ba b.length bc] 29)
  have hk7x := hk6.ext ha7
  have hK7x := (HK.out.ext hbw6).ext ha7
  refine (rmac_any _ _ key [b] _ hK7x (by omega) (Lst.one (HB.out.ext hbw6)) (by rw [flat1]; omega)).mono ?_
  rintro _ w7 ⟨rfl, hb7⟩
  rw [← H2.out]
  have hbb7 := ha7.trans (hb7.mono ha7.size)
  have hk7 := hk6.ext hbb7
  have hbw7 := hbw6.trans (hbb7.mono hbw6.size)
  clear hk6 hbw6 hk7x hK7x ha7 hb7 hbb7
  go_wp2_with fail
  have ha8 := (Below.refl w7.heap.size w7).alloc (Nat.le_refl _) (.cells #[.slice ba b.length bc, .slice ka key.length kc] 29)
  have hk8x := hk7.ext ha8
  have hK8x := (HK.out.ext hbw7).ext ha8
  refine (mac_any _ _ [] [b, key] _ (Byt.nil _) (Lst.two (HB.out.ext hbw7) (HK.out.ext hbw7)) (by simp) (len2 (by omega) (by omega))).mono ?_
  rintro _ w8 ⟨rfl, hb8⟩
  rw [← H3.out]
  have hbb8 := ha8.trans (hb8.mono ha8.size)
  have hk8 := hk7.ext hbb8
  have hbw8 := hbw7.trans (hbb8.mono hbw7.size)
  clear hk7 hbw7 hk8x hK8x ha8 hb8 hbb8
  go_wp2_with fail
  have ha9 := (Below.refl w8.heap.size w8).alloc (Nat.le_refl _) (.cells #[.slice ba b.length bc, .slice ka key.length kc] 29)
  have hk9x := hk8.ext ha9
  have hK9x := (HK.out.ext hbw8).ext ha9
  refine (of_any _ [b, key] _ (Lst.two (HB.out.ext hbw8) (HK.out.ext hbw8)) (len2 (by omega) (by omega))).mono ?_
  rintro _ w9 ⟨rfl, hb9⟩
  rw [← H3.out]
  have hbb9 := ha9.trans (hb9.mono ha9.size)
  have hk9 := hk8.ext hbb9
  have hbw9 := hbw8.trans (hbb9.mono hbw8.size)
  clear hk8 hbw8 hk9x hK9x ha9 hb9 hbb9
  go_wp2
  go_ret
  exact ⟨rfl, hbw9⟩
set_option maxHeartbeats 2000000 in
theorem keys_any (kv : Value) (key : List UInt8) (n : Int) (bv : Value) (b : List UInt8) (w : World) (hk : Byt w kv key) (hn : -9223372036854775808 ≤ n ∧ n ≤ 9223372036854775807) (hb : Byt w bv b) :
    Calls Try.prog 12 #[kv, .int .i64 n, bv] w fun e w' => e = .returned (.bool true) ∧ Below w.heap.size w w' := by
  by_cases h : key.length ≤ 60 ∧ b.length ≤ 100
  · exact keys_main kv bv key b n w hk hb hn h.1 h.2
  obtain ⟨ka, kc, rfl, hkc, hkm⟩ := hk.len
  obtain ⟨ba, bc, rfl, hbc, hbm⟩ := hb.len
  unfold maxLen at hkm hbm
  by_cases h0 : (60 : Int) < (key.length : Int)
  · go_enter Try.func12, Try.ntmps12
    go_wp2_with fail
    refine (known_any _).mono ?_
    rintro _ w1 ⟨rfl, hbw⟩
    go_wp2
    go_ret
    exact ⟨rfl, hbw⟩
  · have h1 : (100 : Int) < (b.length : Int) := by omega
    clear h
    go_enter Try.func12, Try.ntmps12
    go_wp2_with fail
    refine (known_any _).mono ?_
    rintro _ w1 ⟨rfl, hbw⟩
    go_wp2
    go_ret
    exact ⟨rfl, hbw⟩
end Go.Proofs.Ytbbpcgodjncflaa
