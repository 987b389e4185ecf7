/-
  A part of the proofs of this seat: laws of the walk, or contracts of the functions that the statements reach. No conditions but those that each theorem names.
-/
import Derived.Test.YtbbpcgodjncflaaT3x
namespace Go.Sp
open Go.RowKit
theorem r_eqlS {ρ : Operand → Value} {d : Option Tmp} {t t' ty : TypeId} {pos : String} {aft : Array Edge} {g : Option (Nat × Bool)} {x y : Operand} {P : Program} {w : World} {s : ByteArray} (hx : ρ x = .string s) (hy : ρ y = .string s) : (execOp ρ ⟨d, .binOp .eql t x y t', ty, pos, aft, g⟩).run P w = .ok (.value (.bool true)) w :=
  r_bin hx hy rfl (by simp [binOp, Op.stringOp])
theorem r_conv {ρ : Operand → Value} {d : Option Tmp} {t t' ty : TypeId} {pos : String} {aft : Array Edge} {g : Option (Nat × Bool)} {x : Operand} {P : Program} {w w' : World} {v u : Value} (hx : ρ x = v) (h : (convert t t' v).run P w = .ok u w') : (execOp ρ ⟨d, .convert t t' x, ty, pos, aft, g⟩).run P w = .ok (.value u) w' := by
  simp [execOp, hx, h]
theorem strm_take (key : List UInt8) (m k : Nat) (h : m ≤ 16 * k) : ∀ d : Nat, (strm key (k + d)).take m = (strm key k).take m
  | 0 => rfl
  | d + 1 => by
    rw [show k + (d + 1) = (k + d) + 1 by omega, strm_succ, List.take_append_of_le_length (by rw [strm_length]; omega), strm_take key m k h d]
theorem streamB_take (key : List UInt8) (n m p : Nat) (h1 : m ≤ n) (h2 : m ≤ p) : (streamB key n).take m = (streamB key p).take m := by
  unfold streamB
  rw [List.take_take, List.take_take, Nat.min_eq_left h1, Nat.min_eq_left h2]
  rcases Nat.le_total ((n + 15) / 16) ((p + 15) / 16) with h | h
  · obtain ⟨d, hd⟩ := Nat.exists_eq_add_of_le h
    rw [hd, strm_take key m _ (by omega) d]
  · obtain ⟨d, hd⟩ := Nat.exists_eq_add_of_le h
    rw [hd, strm_take key m _ (by omega) d]
end Go.Sp
namespace Go.Proofs.Ytbbpcgodjncflaa
open Go.RowKit Go.Sp
theorem pf31 : plainFn Try.prog 31 = true := by kernel_rfl
theorem pf32 : plainFn Try.prog 32 = true := by kernel_rfl
theorem pf33 : plainFn Try.prog 33 = true := by kernel_rfl
def exS (j : Nat) : Bool := !(j == 22)
def VS (X : List UInt8) (j : Nat) (v : Value) (u : World) : Prop := j = 22 → Byt u v X
theorem VS_mono (n : Nat) (X : List UInt8) : ∀ j v u u', ExtM 5 n u u' → VS X j v u → VS X j v u' := fun _ _ _ _ e h hj => (h hj).extM e
set_option maxRecDepth 100000 in
set_option maxHeartbeats 8000000 in
theorem stretches_main (kv sv : Value) (key salt : List UInt8) (n0 n1 n2 : Int) (w : World) (hk : Byt w kv key) (hs : Byt w sv salt) (hn0 : -9223372036854775808 ≤ n0 ∧ n0 ≤ 9223372036854775807) (hn1 : -9223372036854775808 ≤ n1 ∧ n1 ≤ 9223372036854775807) (hn2 : -9223372036854775808 ≤ n2 ∧ n2 ≤ 9223372036854775807) (h0 : key.length ≤ 60) (h1 : salt.length ≤ 60) :
    Calls Try.prog 13 #[kv, sv, .int .i64 n0, .int .i64 n1, .int .i64 n2] w fun e w' => e = .returned (.bool true) ∧ Below w.heap.size w w' := by
  have HK := Lib.hid hk
  have HS := Lib.hid hs
  obtain ⟨ka, kc, rfl, hkc, hkm⟩ := hk.len
  obtain ⟨sa, sc, rfl, hsc, hsm⟩ := hs.len
  unfold maxLen at hkm hsm
  clear hk hs
  have h0' : ¬ ((60 : Int) < (key.length : Int)) := by omega
  have h1' : ¬ ((60 : Int) < (salt.length : Int)) := by omega
  have hgd : ∀ x y A A' w, (eqGuard .neq 35 x y (.agg A) (.agg A')).run Try.prog w = .ok () w := fun x y A A' w => gd35 _ _ _ _ _ _
  go_enter Try.func13, Try.ntmps13
  go_wp2_with fail
  refine (known_any _).mono ?_
  rintro _ w1 ⟨rfl, hbw1⟩
  go_wp2_with fail
  refine (within_nat n0 14 hn0 (by decide) (by decide) _).mono ?_
  rintro _ wx ⟨q0, rfl, -, hq0, rfl⟩
  have hq0' : q0 < 14 := by omega
  clear hq0
  go_wp2_with fail
  refine (within_nat n1 60 hn1 (by decide) (by decide) _).mono ?_
  rintro _ wx ⟨q1, rfl, hQ1, hq1, rfl⟩
  have hq1' : q1 < 60 := by omega
  have HQ1 := Lib.hid hQ1
  clear hq1 hQ1
  go_wp2_with fail
  refine (stream_any ka kc key q1 (by omega) _ (HK.out.ext hbw1) (by omega)).mono ?_
  rintro _ w2 ⟨xv, rfl, hX2, hb2⟩
  have hbw2 := hbw1.trans (hb2.mono hbw1.size)
  clear hbw1 hb2
  go_wp2_with fail
  refine (within_nat n2 60 hn2 (by decide) (by decide) _).mono ?_
  rintro _ wx ⟨q2, rfl, -, hq2, rfl⟩
  have hq2' : q2 < 60 := by omega
  clear hq2
  go_wp2_with fail
  refine (stream_any ka kc key q2 (by omega) _ (HK.out.ext hbw2) (by omega)).mono ?_
  rintro _ w3 ⟨yv, rfl, hY3, hb3⟩
  have hX3 := hX2.ext hb3
  have hbw3 := hbw2.trans (hb3.mono hbw2.size)
  clear hbw2 hb3 hX2
  obtain ⟨m, hm⟩ : ∃ m, m = min q1 q2 := ⟨_, rfl⟩
  have hm1 : m ≤ q1 := by omega
  have hm2 : m ≤ q2 := by omega
  have hmm : min (q1 : Int) (q2 : Int) = (m : Int) := by omega
  clear hm
  obtain ⟨X, hX⟩ : ∃ X, X = streamB key q1 := ⟨_, rfl⟩
  obtain ⟨Y, hY⟩ : ∃ Y, Y = streamB key q2 := ⟨_, rfl⟩
  have hXl : X.length = q1 := by rw [hX, streamB_length]
  have hYl : Y.length = q2 := by rw [hY, streamB_length]
  have hXY : Y.take m = X.take m := by rw [hX, hY]; exact (streamB_take key q1 m q2 hm1 hm2).symm
  rw [← hX] at hX3
  rw [← hY] at hY3
  have HX := Lib.hid hX
  clear hX hY
  obtain ⟨xa, xc, rfl, hxc, hxm⟩ := hX3.len
  obtain ⟨ya, yc, rfl, hyc, hym⟩ := hY3.len
  rw [hXl] at hxc
  rw [hYl] at hyc
  rw [hXl, hYl]
  unfold maxLen at hxm hym
  have HXY := Lib.hid hXY
  have HXL := Lib.hid hXl
  have HYL := Lib.hid hYl
  clear hXl hYl hXY
  go_wp2_with (refine (show wpList _ _ _ (⟨some 40, .call _, _, _, _, _⟩ :: _) _ _ from stop_here ?_))
  refine Stop.go (wpList_val rfl (r_min rfl rfl hmm) ?_)
  clear hmm
  go_wp2_with fail
  refine (within_nat n0 40 hn0 (by decide) (by decide) _).mono ?_
  rintro _ wx ⟨q, rfl, -, -, rfl⟩
  obtain ⟨A1, hA1⟩ : ∃ O, O = ((strX key salt 999).map B).toArray := ⟨_, rfl⟩
  obtain ⟨A2, hA2⟩ : ∃ O, O = ((strX key salt 0).map B).toArray := ⟨_, rfl⟩
  have hne1 : ∀ w, (binOp .neq 35 (.agg A1) (.agg A1)).run Try.prog w = .ok (.bool false) w := by rw [hA1]; exact ne35 _ (strX_length _ _ _)
  have hne2 : ∀ w, (binOp .neq 35 (.agg A2) (.agg A2)).run Try.prog w = .ok (.bool false) w := by rw [hA2]; exact ne35 _ (strX_length _ _ _)
  have HA1 := Lib.hid hA1
  have HA2 := Lib.hid hA2
  clear hA1 hA2
  have hKK : Byt w3 (.slice ka key.length kc) key := HK.out.ext hbw3
  have hSS : Byt w3 (.slice sa salt.length sc) salt := HS.out.ext hbw3
  have HKK := Lib.hid hKK
  have HSS := Lib.hid hSS
  clear hKK hSS
  by_cases hq : ((q : Int) == 0) = true
  case' pos =>
    go_wp2_with fail
    refine (stretch_any _ _ key salt 9223372036854775807 _ HKK.out HSS.out (by omega) (by omega) (by decide)).mono ?_
    rintro _ w4 ⟨rfl, hb4⟩
    rw [show strN 9223372036854775807 = 999 by decide, ← HA1.out]
    go_wp2_with fail
    refine (rstretch_any _ _ key salt 1000 _ (HKK.out.ext hb4) (HSS.out.ext hb4) (by omega) (by omega) (by decide)).mono ?_
    rintro _ w5 ⟨rfl, hb5⟩
    rw [show strN 1000 = 999 by decide, ← HA1.out]
    have hb35 := hb4.trans (hb5.mono hb4.size)
    clear hb4 hb5
    go_wp2_with fail
    refine (stretch_any _ _ key salt (-9223372036854775808) _ (HKK.out.ext hb35) (HSS.out.ext hb35) (by omega) (by omega) (by decide)).mono ?_
    rintro _ w6 ⟨rfl, hb6⟩
    have hb36 := hb35.trans (hb6.mono hb35.size)
    rw [show strN (-9223372036854775808) = 0 by decide, ← HA2.out]
    clear hb35 hb6
    go_wp2_with fail
    refine (rstretch_any _ _ key salt 1 _ (HKK.out.ext hb36) (HSS.out.ext hb36) (by omega) (by omega) (by decide)).mono ?_
    rintro _ w7 ⟨rfl, hb7⟩
    rw [show strN 1 = 0 by decide, ← HA2.out]
    have hb37 := hb36.trans (hb7.mono hb36.size)
    clear hb7 hb36
    have hbw7 := hbw3.trans (hb37.mono hbw3.size)
    have hX7 := hX3.ext hb37
    have hY7 := hY3.ext hb37
    have hKK := HKK.out.ext hb37
    have hSS := HSS.out.ext hb37
    clear hX3 hY3 hb37 hbw3 HKK HSS
    go_wp2
  case' neg =>
    have hq' : ((q : Int) == 0) = false := by simpa using hq
    clear hq
    go_wp2_with fail
    refine (stretch_any _ _ key salt (-9223372036854775808) _ HKK.out HSS.out (by omega) (by omega) (by decide)).mono ?_
    rintro _ w6 ⟨rfl, hb36⟩
    rw [show strN (-9223372036854775808) = 0 by decide, ← HA2.out]
    go_wp2_with fail
    refine (rstretch_any _ _ key salt 1 _ (HKK.out.ext hb36) (HSS.out.ext hb36) (by omega) (by omega) (by decide)).mono ?_
    rintro _ w7 ⟨rfl, hb7⟩
    rw [show strN 1 = 0 by decide, ← HA2.out]
    have hb37 := hb36.trans (hb7.mono hb36.size)
    clear hb7 hb36
    have hbw7 := hbw3.trans (hb37.mono hbw3.size)
    have hX7 := hX3.ext hb37
    have hY7 := hY3.ext hb37
    have hKK := HKK.out.ext hb37
    have hSS := HSS.out.ext hb37
    clear hX3 hY3 hb37 hbw3 HKK HSS
    go_wp2
  all_goals
    clear hne1 hne2 HA1 HA2 hgd
    obtain ⟨A, hA⟩ : ∃ O, O = strX key salt (strN ((q0 : Int) - 2)) := ⟨_, rfl⟩
    have hAl : A.length = 16 := by rw [hA]; exact strX_length _ _ _
    obtain ⟨r, hr⟩ : ∃ r : Nat, (r : Int) = n1 % 9 := ⟨(n1 % 9).toNat, by have := Int.emod_nonneg n1 (b := 9) (by decide); omega⟩
    have hr9 : r < 9 := by have := Int.emod_lt_of_pos n1 (b := 9) (by decide); omega
    have HA := Lib.hid hA
    have HAL := Lib.hid hAl
    have HR := Lib.hid hr
    clear hA hAl hr
    have hx : ∀ {u u' : World}, ExtM 5 w7.heap.size w7 u → Below u.heap.size u u' → ExtM 5 w7.heap.size u u' := fun h k => ExtM.of k h.below.size
    refine wp_region_VE (bt := 5) exS (fun ix => (lookL [.slice ka key.length kc, .slice sa salt.length sc, .int .i64 ((q0 : Int) - 2), .agg (A.map B).toArray, .slice ka key.length kc, .slice sa salt.length sc, .int .i64 ((q0 : Int) - 2), .agg (A.map B).toArray, .bool true, .bool true, .slice xa q1 xc, .int .i64 q1, .int .i64 n1, .int .i64 q1, .bool true, .bool true, .bool true, .slice xa q1 xc, .string ⟨X.toArray⟩, .slice ka key.length kc, .int .i64 n1, .int .i64 q1, undef, .string ⟨X.toArray⟩, .bool true, .bool true, .bool true, .slice xa q1 xc, .int .i64 m, cutV xa xc 0 m, .string ⟨(X.take m).toArray⟩, .slice ya q2 yc, .int .i64 m, cutV ya yc 0 m, .string ⟨(X.take m).toArray⟩, .bool true, .bool true, .bool true, .slice ka key.length kc, .int .i64 n1, .int .i64 r, .int .i64 (-1 - (r : Int)), .slice none 0 0, .int .i64 ((0 : Nat) : Int), .bool true, .bool true, .bool true, .slice ka key.length kc, .int .i64 n1, .int .i64 r, .int .i64 (1001 + (r : Int)), .slice none 0 0, .int .i64 ((0 : Nat) : Int), .bool true, .bool true, .bool true] ix).getD undef) (VS X) (by kernel_rfl) (by kernel_rfl) (by kernel_rfl) (VS_mono _ _) fun x => ?_
    refine VE_ex (v := .slice ka key.length kc) rfl rfl rfl (fun u hu hf => r_move (rho_base rfl rfl)) ?_
    refine VE_ex (v := .slice sa salt.length sc) rfl rfl rfl (fun u hu hf => r_move (rho_base rfl rfl)) ?_
    refine VE_ex (v := .int .i64 ((q0 : Int) - 2)) rfl rfl rfl (fun u hu hf => r_move (rho_base rfl rfl)) ?_
    refine VE_call (v := .agg (A.map B).toArray) (f := 31) (args := #[.slice ka key.length kc, .slice sa salt.length sc, .int .i64 ((q0 : Int) - 2)]) rfl rfl rfl (fun u => r_call pf31 (map3 (rho_env rfl) (rho_env rfl) (rho_env rfl)) rfl) (fun u hu hf => ?_) ?_
    · refine (stretch_any _ _ key salt ((q0 : Int) - 2) u (hKK.extM hu) (hSS.extM hu) (by omega) (by omega) (by omega)).mono ?_
      rintro _ u' ⟨rfl, hb⟩
      exact ⟨by rw [HA.out], hx hu hb⟩
    refine VE_ex (v := .slice ka key.length kc) rfl rfl rfl (fun u hu hf => r_move (rho_base rfl rfl)) ?_
    refine VE_ex (v := .slice sa salt.length sc) rfl rfl rfl (fun u hu hf => r_move (rho_base rfl rfl)) ?_
    refine VE_ex (v := .int .i64 ((q0 : Int) - 2)) rfl rfl rfl (fun u hu hf => r_move (rho_base rfl rfl)) ?_
    refine VE_call (v := .agg (A.map B).toArray) (f := 32) (args := #[.slice ka key.length kc, .slice sa salt.length sc, .int .i64 ((q0 : Int) - 2)]) rfl rfl rfl (fun u => r_call pf32 (map3 (rho_env rfl) (rho_env rfl) (rho_env rfl)) rfl) (fun u hu hf => ?_) ?_
    · refine (rstretch_any _ _ key salt ((q0 : Int) - 2) u (hKK.extM hu) (hSS.extM hu) (by omega) (by omega) (by omega)).mono ?_
      rintro _ u' ⟨rfl, hb⟩
      exact ⟨by rw [HA.out], hx hu hb⟩
    refine VE_ex (v := .bool true) rfl rfl rfl (fun u hu hf => (r_eqlB arA35 (rho_env rfl) (rho_env rfl) HAL.out HAL.out).trans (by simp)) ?_
    refine VE_ex (v := .bool true) rfl rfl rfl (fun u hu hf => r_move (rho_env rfl)) ?_
    refine VE_ex (v := .slice xa q1 xc) rfl rfl rfl (fun u hu hf => r_move (rho_base rfl rfl)) ?_
    refine VE_ex (v := .int .i64 q1) rfl rfl rfl (fun u hu hf => r_lenSl (rho_env rfl) Try.underlying29) ?_
    refine VE_ex (v := .int .i64 n1) rfl rfl rfl (fun u hu hf => r_move (rho_base rfl rfl)) ?_
    refine VE_call (v := .int .i64 q1) (f := 20) (args := #[.int .i64 n1, .int .i64 60]) rfl rfl rfl (fun u => r_call pf20 (map2 (rho_env rfl) rho_const) rfl) (fun u hu hf => ?_) ?_
    · refine (within_any n1 60 hn1 (by decide) (by decide) u).mono ?_
      rintro _ u' ⟨rfl, rfl⟩
      exact ⟨by rw [HQ1.out], ExtM.refl _ _ _⟩
    refine VE_ex (v := .bool true) rfl rfl rfl (fun u hu hf => (r_eqlI (rho_env rfl) (rho_env rfl)).trans (by simp)) ?_
    refine VE_ex (v := .bool true) rfl rfl rfl (fun u hu hf => r_pickT (rho_env rfl) (rho_env rfl)) ?_
    refine VE_ex (v := .bool true) rfl rfl rfl (fun u hu hf => r_move (rho_env rfl)) ?_
    refine VE_ex (v := .slice xa q1 xc) rfl rfl rfl (fun u hu hf => r_move (rho_base rfl rfl)) ?_
    refine VE_ex (v := .string ⟨X.toArray⟩) rfl rfl rfl (fun u hu hf => ?_) ?_
    · have := hX7.extM hu
      rw [HXL.out] at this
      exact r_conv (rho_env rfl) (Byt.str this Try.underlying29 Try.underlying5 Try.underlying9)
    refine VE_ex (v := .slice ka key.length kc) rfl rfl rfl (fun u hu hf => r_move (rho_base rfl rfl)) ?_
    refine VE_ex (v := .int .i64 n1) rfl rfl rfl (fun u hu hf => r_move (rho_base rfl rfl)) ?_
    refine VE_call (v := .int .i64 q1) (f := 20) (args := #[.int .i64 n1, .int .i64 60]) rfl rfl rfl (fun u => r_call pf20 (map2 (rho_env rfl) rho_const) rfl) (fun u hu hf => ?_) ?_
    · refine (within_any n1 60 hn1 (by decide) (by decide) u).mono ?_
      rintro _ u' ⟨rfl, rfl⟩
      exact ⟨by rw [HQ1.out], ExtM.refl _ _ _⟩
    refine VE_callp (f := 33) (args := #[.slice ka key.length kc, .int .i64 q1]) rfl rfl (fun u => r_call pf33 (map2 (rho_env rfl) (rho_env rfl)) rfl) (fun u hu hf => ?_) ?_
    · refine (rstream_any _ key q1 (by omega) u (hKK.extM hu) (by omega)).mono ?_
      rintro _ u' ⟨v', rfl, ho, hb⟩
      exact ⟨v', rfl, hx hu hb, fun _ => by rw [HX.out]; exact ho⟩
    refine VE_ex (v := .string ⟨X.toArray⟩) rfl rfl rfl (fun u hu hf => r_conv (rho_env rfl) (Byt.str (hf 22 rfl (by decide) rfl rfl) Try.underlying29 Try.underlying5 Try.underlying9)) ?_
    refine VE_ex (v := .bool true) rfl rfl rfl (fun u hu hf => r_eqlS (rho_env rfl) (rho_env rfl)) ?_
    refine VE_ex (v := .bool true) rfl rfl rfl (fun u hu hf => r_pickT (rho_env rfl) (rho_env rfl)) ?_
    refine VE_ex (v := .bool true) rfl rfl rfl (fun u hu hf => r_move (rho_env rfl)) ?_
    refine VE_ex (v := .slice xa q1 xc) rfl rfl rfl (fun u hu hf => r_move (rho_base rfl rfl)) ?_
    refine VE_ex (v := .int .i64 m) rfl rfl rfl (fun u hu hf => r_move (rho_base rfl rfl)) ?_
    refine VE_ex (v := cutV xa xc 0 m) rfl rfl rfl (fun u hu hf => r_slH (hi := m) sl1_29 (rho_env rfl) (rho_env rfl) (by omega)) ?_
    refine VE_ex (v := .string ⟨(X.take m).toArray⟩) rfl rfl rfl (fun u hu hf => ?_) ?_
    · have := (hX7.extM hu).cut 0 m (by omega) (by rw [HXL.out]; omega)
      rw [List.drop_zero] at this
      exact r_conv (rho_env rfl) (Byt.str this Try.underlying29 Try.underlying5 Try.underlying9)
    refine VE_ex (v := .slice ya q2 yc) rfl rfl rfl (fun u hu hf => r_move (rho_base rfl rfl)) ?_
    refine VE_ex (v := .int .i64 m) rfl rfl rfl (fun u hu hf => r_move (rho_base rfl rfl)) ?_
    refine VE_ex (v := cutV ya yc 0 m) rfl rfl rfl (fun u hu hf => r_slH (hi := m) sl1_29 (rho_env rfl) (rho_env rfl) (by omega)) ?_
    refine VE_ex (v := .string ⟨(X.take m).toArray⟩) rfl rfl rfl (fun u hu hf => ?_) ?_
    · have := (hY7.extM hu).cut 0 m (by omega) (by rw [HYL.out]; omega)
      rw [List.drop_zero, HXY.out] at this
      exact r_conv (rho_env rfl) (Byt.str this Try.underlying29 Try.underlying5 Try.underlying9)
    refine VE_ex (v := .bool true) rfl rfl rfl (fun u hu hf => r_eqlS (rho_env rfl) (rho_env rfl)) ?_
    refine VE_ex (v := .bool true) rfl rfl rfl (fun u hu hf => r_pickT (rho_env rfl) (rho_env rfl)) ?_
    refine VE_ex (v := .bool true) rfl rfl rfl (fun u hu hf => r_move (rho_env rfl)) ?_
    refine VE_ex (v := .slice ka key.length kc) rfl rfl rfl (fun u hu hf => r_move (rho_base rfl rfl)) ?_
    refine VE_ex (v := .int .i64 n1) rfl rfl rfl (fun u hu hf => r_move (rho_base rfl rfl)) ?_
    refine VE_call (v := .int .i64 r) (f := 20) (args := #[.int .i64 n1, .int .i64 9]) rfl rfl rfl (fun u => r_call pf20 (map2 (rho_env rfl) rho_const) rfl) (fun u hu hf => ?_) ?_
    · refine (within_any n1 9 hn1 (by decide) (by decide) u).mono ?_
      rintro _ u' ⟨rfl, rfl⟩
      exact ⟨by rw [HR.out], ExtM.refl _ _ _⟩
    refine VE_ex (v := .int .i64 (-1 - (r : Int))) rfl rfl rfl (fun u hu hf => r_subI rho_const (rho_env rfl) ⟨rfl, by omega⟩) ?_
    refine VE_call (v := .slice none 0 0) (f := 29) (args := #[.slice ka key.length kc, .int .i64 (-1 - (r : Int))]) rfl rfl rfl (fun u => r_call pf29 (map2 (rho_env rfl) (rho_env rfl)) rfl) (fun u hu hf => ?_) ?_
    · refine (stream_no ka key.length kc _ (by omega) u).mono ?_
      rintro _ u' ⟨rfl, hb⟩
      exact ⟨rfl, hx hu hb⟩
    refine VE_ex (v := .int .i64 ((0 : Nat) : Int)) rfl rfl rfl (fun u hu hf => r_lenSl (rho_env rfl) Try.underlying29) ?_
    refine VE_ex (v := .bool true) rfl rfl rfl (fun u hu hf => (r_eqlI (rho_env rfl) rho_const).trans (by simp)) ?_
    refine VE_ex (v := .bool true) rfl rfl rfl (fun u hu hf => r_pickT (rho_env rfl) (rho_env rfl)) ?_
    refine VE_ex (v := .bool true) rfl rfl rfl (fun u hu hf => r_move (rho_env rfl)) ?_
    refine VE_ex (v := .slice ka key.length kc) rfl rfl rfl (fun u hu hf => r_move (rho_base rfl rfl)) ?_
    refine VE_ex (v := .int .i64 n1) rfl rfl rfl (fun u hu hf => r_move (rho_base rfl rfl)) ?_
    refine VE_call (v := .int .i64 r) (f := 20) (args := #[.int .i64 n1, .int .i64 9]) rfl rfl rfl (fun u => r_call pf20 (map2 (rho_env rfl) rho_const) rfl) (fun u hu hf => ?_) ?_
    · refine (within_any n1 9 hn1 (by decide) (by decide) u).mono ?_
      rintro _ u' ⟨rfl, rfl⟩
      exact ⟨by rw [HR.out], ExtM.refl _ _ _⟩
    refine VE_ex (v := .int .i64 (1001 + (r : Int))) rfl rfl rfl (fun u hu hf => r_addI rho_const (rho_env rfl) ⟨rfl, by omega⟩) ?_
    refine VE_call (v := .slice none 0 0) (f := 29) (args := #[.slice ka key.length kc, .int .i64 (1001 + (r : Int))]) rfl rfl rfl (fun u => r_call pf29 (map2 (rho_env rfl) (rho_env rfl)) rfl) (fun u hu hf => ?_) ?_
    · refine (stream_no ka key.length kc _ (by omega) u).mono ?_
      rintro _ u' ⟨rfl, hb⟩
      exact ⟨rfl, hx hu hb⟩
    refine VE_ex (v := .int .i64 ((0 : Nat) : Int)) rfl rfl rfl (fun u hu hf => r_lenSl (rho_env rfl) Try.underlying29) ?_
    refine VE_ex (v := .bool true) rfl rfl rfl (fun u hu hf => (r_eqlI (rho_env rfl) rho_const).trans (by simp)) ?_
    refine VE_ex (v := .bool true) rfl rfl rfl (fun u hu hf => r_pickT (rho_env rfl) (rho_env rfl)) ?_
    refine VE_ex (v := .bool true) rfl rfl rfl (fun u hu hf => r_assign (rho_env rfl)) ?_
    refine VE_nil fun u hu hf => ?_
    rw [withEnv_norm (rfl : setsL _ 0 _ = [_, _, _, _, _, _, _, _, _, _, _, _, _, _, _, _, _, _, _, _, _, _, _, _, _, _, _, _, _, _, _, _, _, _, _, _, _, _, _, _, _, _, _, _, _, _, _, _, _, _, _, _, _, _, _, _, _, _, _, _, _, _, _, _, _, _, _, _, _, _, _, _, _, _, _, _, _, _, _, _, _, _, _, _, _, _, _, _, _, _, _, _, _, _, _, _, _, _, _, _, _, _, _, _, _, _, _, _, _, _, _, _, _, _, _, _, _])]
    have hbw8 := hbw7.trans (hu.below.mono hbw7.size)
    clear hf hx hu hbw7 hX7 hY7
    go_wp2
    go_ret
    exact ⟨rfl, hbw8⟩
set_option maxHeartbeats 2000000 in
theorem stretches_any (kv : Value) (key : List UInt8) (sv : Value) (salt : List UInt8) (n0 n1 n2 : Int) (w : World) (hk : Byt w kv key) (hs : Byt w sv salt) (hn0 : -9223372036854775808 ≤ n0 ∧ n0 ≤ 9223372036854775807) (hn1 : -9223372036854775808 ≤ n1 ∧ n1 ≤ 9223372036854775807) (hn2 : -9223372036854775808 ≤ n2 ∧ n2 ≤ 9223372036854775807) :
    Calls Try.prog 13 #[kv, sv, .int .i64 n0, .int .i64 n1, .int .i64 n2] w fun e w' => e = .returned (.bool true) ∧ Below w.heap.size w w' := by
  by_cases h : key.length ≤ 60 ∧ salt.length ≤ 60
  · exact stretches_main kv sv key salt n0 n1 n2 w hk hs hn0 hn1 hn2 h.1 h.2
  obtain ⟨ka, kc, rfl, hkc, hkm⟩ := hk.len
  obtain ⟨sa, sc, rfl, hsc, hsm⟩ := hs.len
  unfold maxLen at hkm hsm
  by_cases h0 : (60 : Int) < (key.length : Int)
  · go_enter Try.func13, Try.ntmps13
    go_wp2_with fail
    refine (known_any _).mono ?_
    rintro _ w1 ⟨rfl, hbw⟩
    go_wp2
    go_ret
    exact ⟨rfl, hbw⟩
  · have h1 : (60 : Int) < (salt.length : Int) := by omega
    clear h
    go_enter Try.func13, Try.ntmps13
    go_wp2_with fail
    refine (known_any _).mono ?_
    rintro _ w1 ⟨rfl, hbw⟩
    go_wp2
    go_ret
    exact ⟨rfl, hbw⟩
end Go.Proofs.Ytbbpcgodjncflaa
