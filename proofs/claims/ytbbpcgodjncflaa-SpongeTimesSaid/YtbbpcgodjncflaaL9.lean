/-
  A part of the proofs of this seat: laws of the walk, or contracts of the functions that the statements reach. No conditions but those that each theorem names.
-/
import Derived.Test.YtbbpcgodjncflaaLi
import Derived.Test.YtbbpcgodjncflaaRegT
namespace Go.Sp
open Go.RowKit
theorem Lst.extM {bt : TypeId} {n : Nat} {w w' : World} {v : Value} {ls : List (List UInt8)} (h : Lst w v ls) (e : ExtM bt n w w') : Lst w' v ls := by
  rcases h with h | ⟨g, off, cap, rfl, h1, h2, h3, h4⟩
  · exact .inl h
  · exact .inr ⟨g, off, cap, rfl, h1, h2, Nat.lt_of_lt_of_le h3 e.below.size, fun i l hi => by
      obtain ⟨u, hu, hb⟩ := h4 i l hi
      exact ⟨u, e.cell hu, hb.extM e⟩⟩
theorem flat2 (x y : List UInt8) : (flat [x, y]).length = 16 + x.length + y.length := by simp [flat, eight_length]; omega
theorem flat1 (x : List UInt8) : (flat [x]).length = 8 + x.length := by simp [flat, eight_length]
theorem len2 {x y : List UInt8} {n : Nat} (hx : x.length ≤ n) (hy : y.length ≤ n) : ∀ l ∈ [x, y], l.length ≤ n := fun l hl => by
  simp at hl
  rcases hl with e | e <;> rw [e] <;> assumption
theorem len1 {x : List UInt8} {n : Nat} (hx : x.length ≤ n) : ∀ l ∈ [x], l.length ≤ n := fun l hl => by
  simp at hl
  rw [hl]; exact hx
end Go.Sp
namespace Go.Proofs.Ytbbpcgodjncflaa
open Go.RowKit Go.Sp
theorem r_build39_2 {ρ : Operand → Value} {d ty pos aft g} {x y : Operand} {a b : Option Addr} {n c m e : Nat} (u : World) (hx : ρ x = .slice a n c) (hy : ρ y = .slice b m e) :
    (execOp ρ ⟨d, .buildSlice 39 2 #[(0, x), (1, y)], ty, pos, aft, g⟩).run Try.prog u = .ok (.value (.slice (some ⟨u.heap.size, 0, none⟩) 2 2)) (u.alloc (.cells #[.slice a n c, .slice b m e] 29)) := by
  simp only [execOp]
  go_simp
theorem pf25 : plainFn Try.prog 25 = true := by kernel_rfl
def exT9 (j : Nat) : Bool := !([7, 9].contains j)
def VT9 (n : Nat) (ls : List (List UInt8)) : Nat → Value → World → Prop
  | 7, v, u => Lst u v ls
  | 9, v, u => ∃ g, v = .pointer (some ⟨g, 0, none⟩) ∧ n ≤ g ∧ Blk u g ((List.replicate 16 (0 : UInt8)).map B).toArray 35
  | _, _, _ => True
theorem VT9_mono (n m : Nat) (ls : List (List UInt8)) (j : Nat) (v : Value) (u u' : World) (e : ExtM 5 m u u') (h : VT9 n ls j v u) : VT9 n ls j v u' := by
  unfold VT9 at *
  split at h
  · exact h.extM e
  · obtain ⟨g, h1, h2, h3⟩ := h
    exact ⟨g, h1, h2, h3.extM (by decide) e⟩
  · trivial
theorem VT9_top (n : Nat) (ls : List (List UInt8)) (j : Nat) (v : Value) (u : World) (h : 10 ≤ j) : VT9 n ls j v u := by
  unfold VT9
  split <;> first | (exfalso; omega) | trivial
def ex9 (j : Nat) : Bool := !([8, 20, 27, 31, 38, 42].contains j)
def V9 (a : List UInt8) (k m : Nat) : Nat → Value → World → Prop
  | 8, v, u => Lst u v [a.take k, a.drop k]
  | 20, v, u => Lst u v [a.take m, a.drop m]
  | 27, v, u => Lst u v [a]
  | 31, v, u => Lst u v [a]
  | 38, v, u => Lst u v [a, []]
  | 42, v, u => Lst u v [a, []]
  | _, _, _ => True
theorem V9_mono (n : Nat) (a : List UInt8) (k m : Nat) (j : Nat) (v : Value) (u u' : World) (e : ExtM 5 n u u') (h : V9 a k m j v u) : V9 a k m j v u' := by
  unfold V9 at *
  split at h <;> first | exact h.extM e | trivial
set_option maxRecDepth 100000 in
set_option maxHeartbeats 2000000 in
theorem parts_main (kv av : Value) (key a : List UInt8) (cut other : Int) (w : World) (hk : Byt w kv key) (ha : Byt w av a) (hc : -9223372036854775808 ≤ cut ∧ cut ≤ 9223372036854775807) (ho : -9223372036854775808 ≤ other ∧ other ≤ 9223372036854775807) (h0 : key.length ≤ 60) (h1 : a.length ≤ 100) :
    Calls Try.prog 9 #[kv, av, .int .i64 cut, .int .i64 other] w fun e w' => e = .returned (.bool true) ∧ Below w.heap.size w w' := by
  have HK := Lib.hid hk
  have HA := Lib.hid ha
  obtain ⟨ka, kc, rfl, hkc, hkm⟩ := hk.len
  obtain ⟨aa, ac, rfl, hac, ham⟩ := ha.len
  unfold maxLen at hkm ham
  clear hk ha
  have h0' : ¬ ((60 : Int) < (key.length : Int)) := by omega
  have h1' : ¬ ((100 : Int) < (a.length : Int)) := by omega
  go_enter Try.func9, Try.ntmps9
  go_wp2_with fail
  refine (known_any _).mono ?_
  rintro _ w1 ⟨rfl, hbw1⟩
  go_wp2_with fail
  refine (within_nat cut _ hc (by omega) (by omega) _).mono ?_
  rintro _ wx ⟨k, rfl, -, hk, rfl⟩
  go_wp2_with fail
  refine (within_nat other _ ho (by omega) (by omega) _).mono ?_
  rintro _ wx ⟨m, rfl, -, hm, rfl⟩
  have hk' : k ≤ a.length := by omega
  have hm' : m ≤ a.length := by omega
  clear hk hm
  obtain ⟨M1, hM1⟩ : ∃ M, M = macB key [a.take k, a.drop k] := ⟨_, rfl⟩
  obtain ⟨M2, hM2⟩ : ∃ M, M = macB key [a.take m, a.drop m] := ⟨_, rfl⟩
  obtain ⟨M3, hM3⟩ : ∃ M, M = macB key [a] := ⟨_, rfl⟩
  obtain ⟨M4, hM4⟩ : ∃ M, M = macB key [a, []] := ⟨_, rfl⟩
  have l1 : M1.length = 16 := by rw [hM1, macB_length]
  have l2 : M2.length = 16 := by rw [hM2, macB_length]
  have l3 : M3.length = 16 := by rw [hM3, macB_length]
  have l4 : M4.length = 16 := by rw [hM4, macB_length]
  have i1 : (Try.prog.info? 35).map (·.size) = some (M1.map B).toArray.size := by rw [show (M1.map B).toArray.size = 16 by simp [l1]]; kernel_rfl
  have i2 : (Try.prog.info? 35).map (·.size) = some (M2.map B).toArray.size := by rw [show (M2.map B).toArray.size = 16 by simp [l2]]; kernel_rfl
  have z1 : ((List.replicate 16 (0 : UInt8)).map B).toArray.size = (M1.map B).toArray.size := by simp [l1]
  have z2 : ((List.replicate 16 (0 : UInt8)).map B).toArray.size = (M2.map B).toArray.size := by simp [l2]
  have HM1 := Lib.hid hM1
  have HM2 := Lib.hid hM2
  have HM3 := Lib.hid hM3
  have HM4 := Lib.hid hM4
  have L1 := Lib.hid l1
  have L2 := Lib.hid l2
  have L3 := Lib.hid l3
  have L4 := Lib.hid l4
  have I1 := Lib.hid i1
  have I2 := Lib.hid i2
  have Z1 := Lib.hid z1
  have Z2 := Lib.hid z2
  clear hM1 hM2 hM3 hM4 l1 l2 l3 l4 i1 i2 z1 z2
  go_wp2
  have hx : ∀ {u u' : World}, ExtM 5 w1.heap.size w1 u → Below u.heap.size u u' → ExtM 5 w1.heap.size u u' := fun h k => ExtM.of k h.below.size
  refine wp_region_VT (bt := 5) 10 exT9 (fun j => (lookL [.slice ka key.length kc, .slice aa a.length ac, .int .i64 k, cutV aa ac 0 k, .slice aa a.length ac, .int .i64 k, cutV aa ac k a.length, undef, .agg (M1.map B).toArray, undef, undef] j).getD undef) (VT9 w1.heap.size [a.take k, a.drop k]) (by kernel_rfl) (by kernel_rfl) (by kernel_rfl) (by kernel_rfl) (VT9_mono _ _ _) (VT9_top _ _) fun x => ?_
  simp only [List.take_succ_cons, List.take_zero, List.drop_succ_cons, List.drop_zero]
  refine VE_ex (v := .slice ka key.length kc) rfl rfl rfl (fun u hu hf => r_move (rho_base rfl rfl)) ?_
  refine VE_ex (v := .slice aa a.length ac) rfl rfl rfl (fun u hu hf => r_move (rho_base rfl rfl)) ?_
  refine VE_ex (v := .int .i64 k) rfl rfl rfl (fun u hu hf => r_move (rho_base rfl rfl)) ?_
  refine VE_ex (v := cutV aa ac 0 k) rfl rfl rfl (fun u hu hf => r_slH (hi := k) sl1_29 (rho_env rfl) (rho_env rfl) (by omega)) ?_
  refine VE_ex (v := .slice aa a.length ac) rfl rfl rfl (fun u hu hf => r_move (rho_base rfl rfl)) ?_
  refine VE_ex (v := .int .i64 k) rfl rfl rfl (fun u hu hf => r_move (rho_base rfl rfl)) ?_
  refine VE_ex (v := cutV aa ac k a.length) rfl rfl rfl (fun u hu hf => r_slL (lo := k) sl1_29 (rho_env rfl) (rho_env rfl) hk') ?_
  refine VE_any rfl rfl (fun u hu hf => ?_) ?_
  · have e1 : Byt u (cutV aa ac 0 k) (a.take k) := by have := (((HA.out.ext hbw1).extM hu).cut 0 k (by omega) hk'); rwa [List.drop_zero] at this
    have e2 : Byt u (cutV aa ac k a.length) (a.drop k) := by have := (((HA.out.ext hbw1).extM hu).cut k a.length hk' (Nat.le_refl _)); rwa [List.take_length] at this
    exact ⟨_, _, r_build39_2 u (rho_env rfl) (rho_env rfl), hx hu ((Below.refl _ _).alloc (Nat.le_refl _) _), Lst.two e1 e2⟩
  refine VE_call (v := .agg (M1.map B).toArray) (f := 24) (args := #[.slice ka key.length kc, x 7]) rfl rfl rfl (fun u => r_call pf24 (map2 (rho_env rfl) (rho_env rfl)) rfl) (fun u hu hf => ?_) ?_
  · refine (mac_any _ _ key [a.take k, a.drop k] u ((HK.out.ext hbw1).extM hu) (hf 7 rfl (by decide) rfl) (by omega) (len2 (by simp; omega) (by simp; omega))).mono ?_
    rintro _ u' ⟨rfl, hb⟩
    exact ⟨by rw [HM1.out], hx hu hb⟩
  refine VE_any rfl rfl (fun u hu hf => ?_) ?_
  · exact ⟨_, _, r_alloc35 u, hx hu ((Below.refl _ _).alloc (Nat.le_refl _) _), u.heap.size, rfl, hu.below.size, Blk.new u _ 35⟩
  refine VE_nil fun u hu hf => ?_
  obtain ⟨g2, hg, hgn, hR2⟩ := hf 9 (by decide) rfl
  rw [hg]
  refine wpList_norm (rfl : setsL _ 0 _ = [_, _, _, _, _, _, _, _, _, _, _, _, _, _, _, _, _, _, _, _, _, _, _, _, _, _, _, _, _, _, _, _, _, _, _, _, _, _, _, _, _, _, _, _, _, _, _, _, _, _, _, _, _, _, _, _, _, _, _, _, _, _, _, _, _, _, _, _, _, _, _, _, _, _, _, _, _, _, _, _, _, _, _, _, _, _, _, _, _, _, _, _, _, _, _, _, _]) ?_
  refine wpList_store_blk rfl rfl rfl rfl hR2 Z1.out I1.out (bytes_one _) ?_
  intro w2 hS2 hO2
  have hbw2 := hbw1.trans (hu.below.mono hbw1.size) |>.trans (hO2.below (by have := hbw1.size; omega) (by have := hu.below.size; have := hbw1.size; omega))
  have hsz12 := hu.below.size
  clear hR2 hO2 hx hf hu hbw1 hg
  go_wp2
  have hx : ∀ {u u' : World}, ExtM 5 w2.heap.size w2 u → Below u.heap.size u u' → ExtM 5 w2.heap.size u u' := fun h k => ExtM.of k h.below.size
  refine wp_region_VT (bt := 5) 10 exT9 (fun j => (lookL [.slice ka key.length kc, .slice aa a.length ac, .int .i64 m, cutV aa ac 0 m, .slice aa a.length ac, .int .i64 m, cutV aa ac m a.length, undef, .agg (M2.map B).toArray, undef, undef] j).getD undef) (VT9 w2.heap.size [a.take m, a.drop m]) (by kernel_rfl) (by kernel_rfl) (by kernel_rfl) (by kernel_rfl) (VT9_mono _ _ _) (VT9_top _ _) fun x => ?_
  simp only [List.take_succ_cons, List.take_zero, List.drop_succ_cons, List.drop_zero]
  refine VE_ex (v := .slice ka key.length kc) rfl rfl rfl (fun u hu hf => r_move (rho_base rfl rfl)) ?_
  refine VE_ex (v := .slice aa a.length ac) rfl rfl rfl (fun u hu hf => r_move (rho_base rfl rfl)) ?_
  refine VE_ex (v := .int .i64 m) rfl rfl rfl (fun u hu hf => r_move (rho_base rfl rfl)) ?_
  refine VE_ex (v := cutV aa ac 0 m) rfl rfl rfl (fun u hu hf => r_slH (hi := m) sl1_29 (rho_env rfl) (rho_env rfl) (by omega)) ?_
  refine VE_ex (v := .slice aa a.length ac) rfl rfl rfl (fun u hu hf => r_move (rho_base rfl rfl)) ?_
  refine VE_ex (v := .int .i64 m) rfl rfl rfl (fun u hu hf => r_move (rho_base rfl rfl)) ?_
  refine VE_ex (v := cutV aa ac m a.length) rfl rfl rfl (fun u hu hf => r_slL (lo := m) sl1_29 (rho_env rfl) (rho_env rfl) hm') ?_
  refine VE_any rfl rfl (fun u hu hf => ?_) ?_
  · have e1 : Byt u (cutV aa ac 0 m) (a.take m) := by have := (((HA.out.ext hbw2).extM hu).cut 0 m (by omega) hm'); rwa [List.drop_zero] at this
    have e2 : Byt u (cutV aa ac m a.length) (a.drop m) := by have := (((HA.out.ext hbw2).extM hu).cut m a.length hm' (Nat.le_refl _)); rwa [List.take_length] at this
    exact ⟨_, _, r_build39_2 u (rho_env rfl) (rho_env rfl), hx hu ((Below.refl _ _).alloc (Nat.le_refl _) _), Lst.two e1 e2⟩
  refine VE_call (v := .agg (M2.map B).toArray) (f := 24) (args := #[.slice ka key.length kc, x 7]) rfl rfl rfl (fun u => r_call pf24 (map2 (rho_env rfl) (rho_env rfl)) rfl) (fun u hu hf => ?_) ?_
  · refine (mac_any _ _ key [a.take m, a.drop m] u ((HK.out.ext hbw2).extM hu) (hf 7 rfl (by decide) rfl) (by omega) (len2 (by simp; omega) (by simp; omega))).mono ?_
    rintro _ u' ⟨rfl, hb⟩
    exact ⟨by rw [HM2.out], hx hu hb⟩
  refine VE_any rfl rfl (fun u hu hf => ?_) ?_
  · exact ⟨_, _, r_alloc35 u, hx hu ((Below.refl _ _).alloc (Nat.le_refl _) _), u.heap.size, rfl, hu.below.size, Blk.new u _ 35⟩
  refine VE_nil fun u hu hf => ?_
  obtain ⟨g3, hg, hgn, hR3⟩ := hf 9 (by decide) rfl
  rw [hg]
  refine wpList_norm (rfl : setsL _ 0 _ = [_, _, _, _, _, _, _, _, _, _, _, _, _, _, _, _, _, _, _, _, _, _, _, _, _, _, _, _, _, _, _, _, _, _, _, _, _, _, _, _, _, _, _, _, _, _, _, _, _, _, _, _, _, _, _, _, _, _, _, _, _, _, _, _, _, _, _, _, _, _, _, _, _, _, _, _, _, _, _, _, _, _, _, _, _, _, _, _, _, _, _, _, _, _, _, _, _]) ?_
  refine wpList_store_blk rfl rfl rfl rfl hR3 Z2.out I2.out (bytes_one _) ?_
  intro w3 hS3 hO3
  have hbw3 := hbw2.trans (hu.below.mono hbw2.size) |>.trans (hO3.below (by have := hbw2.size; omega) (by have := hu.below.size; have := hbw2.size; omega))
  have hS2' := (hS2.extM (by decide) hu).only hO3 (by have := hS2.lt; omega)
  clear hR3 hO3 hx hf hu hbw2 hg hS2
  go_wp2
  have hx : ∀ {u u' : World}, ExtM 5 w3.heap.size w3 u → Below u.heap.size u u' → ExtM 5 w3.heap.size u u' := fun h k => ExtM.of k h.below.size
  refine wp_region_VE (bt := 5) ex9 (fun j => (lookL [.agg (M1.map B).toArray, .slice ka key.length kc, .slice aa a.length ac, .int .i64 k, cutV aa ac 0 k, .slice aa a.length ac, .int .i64 k, cutV aa ac k a.length, undef, .agg (M1.map B).toArray, .bool true, .bool true, .agg (M2.map B).toArray, .slice ka key.length kc, .slice aa a.length ac, .int .i64 m, cutV aa ac 0 m, .slice aa a.length ac, .int .i64 m, cutV aa ac m a.length, undef, .agg (M2.map B).toArray, .bool true, .bool true, .bool true, .slice ka key.length kc, .slice aa a.length ac, undef, .agg (M3.map B).toArray, .slice ka key.length kc, .slice aa a.length ac, undef, .agg (M3.map B).toArray, .bool true, .bool true, .bool true, .slice ka key.length kc, .slice aa a.length ac, undef, .agg (M4.map B).toArray, .slice ka key.length kc, .slice aa a.length ac, undef, .agg (M4.map B).toArray, .bool true, .bool true, .bool true] j).getD undef) (V9 a k m) (by kernel_rfl) (by kernel_rfl) (by kernel_rfl) (V9_mono _ _ _ _) fun x => ?_
  refine VE_ex (v := .agg (M1.map B).toArray) rfl rfl rfl (fun u hu hf => r_loadBlk (rho_base rfl rfl) (hS2'.ext hu.below) Try.underlying35 rfl I1.out) ?_
  refine VE_ex (v := .slice ka key.length kc) rfl rfl rfl (fun u hu hf => r_move (rho_base rfl rfl)) ?_
  refine VE_ex (v := .slice aa a.length ac) rfl rfl rfl (fun u hu hf => r_move (rho_base rfl rfl)) ?_
  refine VE_ex (v := .int .i64 k) rfl rfl rfl (fun u hu hf => r_move (rho_base rfl rfl)) ?_
  refine VE_ex (v := cutV aa ac 0 k) rfl rfl rfl (fun u hu hf => r_slH (hi := k) sl1_29 (rho_env rfl) (rho_env rfl) (by omega)) ?_
  refine VE_ex (v := .slice aa a.length ac) rfl rfl rfl (fun u hu hf => r_move (rho_base rfl rfl)) ?_
  refine VE_ex (v := .int .i64 k) rfl rfl rfl (fun u hu hf => r_move (rho_base rfl rfl)) ?_
  refine VE_ex (v := cutV aa ac k a.length) rfl rfl rfl (fun u hu hf => r_slL (lo := k) sl1_29 (rho_env rfl) (rho_env rfl) hk') ?_
  refine VE_any rfl rfl (fun u hu hf => ?_) ?_
  · have e1 : Byt u (cutV aa ac 0 k) (a.take k) := by have := (((HA.out.ext hbw3).extM hu).cut 0 k (by omega) hk'); rwa [List.drop_zero] at this
    have e2 : Byt u (cutV aa ac k a.length) (a.drop k) := by have := (((HA.out.ext hbw3).extM hu).cut k a.length hk' (Nat.le_refl _)); rwa [List.take_length] at this
    exact ⟨_, _, r_build39_2 u (rho_env rfl) (rho_env rfl), hx hu ((Below.refl _ _).alloc (Nat.le_refl _) _), Lst.two e1 e2⟩
  refine VE_call (v := .agg (M1.map B).toArray) (f := 25) (args := #[.slice ka key.length kc, x 8]) rfl rfl rfl (fun u => r_call pf25 (map2 (rho_env rfl) (rho_env rfl)) rfl) (fun u hu hf => ?_) ?_
  · refine (rmac_any _ _ key [a.take k, a.drop k] u ((HK.out.ext hbw3).extM hu) (by omega) (hf 8 rfl (by decide) rfl) (by rw [flat2]; first | omega | (simp; omega) | simp)).mono ?_
    rintro _ u' ⟨rfl, hb⟩
    exact ⟨by rw [HM1.out], hx hu hb⟩
  refine VE_ex (v := .bool true) rfl rfl rfl (fun u hu hf => (r_eqlB arA35 (rho_env rfl) (rho_env rfl) L1.out L1.out).trans (by simp)) ?_
  refine VE_ex (v := .bool true) rfl rfl rfl (fun u hu hf => r_move (rho_env rfl)) ?_
  refine VE_ex (v := .agg (M2.map B).toArray) rfl rfl rfl (fun u hu hf => r_loadBlk (rho_base rfl rfl) (hS3.ext hu.below) Try.underlying35 rfl I2.out) ?_
  refine VE_ex (v := .slice ka key.length kc) rfl rfl rfl (fun u hu hf => r_move (rho_base rfl rfl)) ?_
  refine VE_ex (v := .slice aa a.length ac) rfl rfl rfl (fun u hu hf => r_move (rho_base rfl rfl)) ?_
  refine VE_ex (v := .int .i64 m) rfl rfl rfl (fun u hu hf => r_move (rho_base rfl rfl)) ?_
  refine VE_ex (v := cutV aa ac 0 m) rfl rfl rfl (fun u hu hf => r_slH (hi := m) sl1_29 (rho_env rfl) (rho_env rfl) (by omega)) ?_
  refine VE_ex (v := .slice aa a.length ac) rfl rfl rfl (fun u hu hf => r_move (rho_base rfl rfl)) ?_
  refine VE_ex (v := .int .i64 m) rfl rfl rfl (fun u hu hf => r_move (rho_base rfl rfl)) ?_
  refine VE_ex (v := cutV aa ac m a.length) rfl rfl rfl (fun u hu hf => r_slL (lo := m) sl1_29 (rho_env rfl) (rho_env rfl) hm') ?_
  refine VE_any rfl rfl (fun u hu hf => ?_) ?_
  · have e1 : Byt u (cutV aa ac 0 m) (a.take m) := by have := (((HA.out.ext hbw3).extM hu).cut 0 m (by omega) hm'); rwa [List.drop_zero] at this
    have e2 : Byt u (cutV aa ac m a.length) (a.drop m) := by have := (((HA.out.ext hbw3).extM hu).cut m a.length hm' (Nat.le_refl _)); rwa [List.take_length] at this
    exact ⟨_, _, r_build39_2 u (rho_env rfl) (rho_env rfl), hx hu ((Below.refl _ _).alloc (Nat.le_refl _) _), Lst.two e1 e2⟩
  refine VE_call (v := .agg (M2.map B).toArray) (f := 25) (args := #[.slice ka key.length kc, x 20]) rfl rfl rfl (fun u => r_call pf25 (map2 (rho_env rfl) (rho_env rfl)) rfl) (fun u hu hf => ?_) ?_
  · refine (rmac_any _ _ key [a.take m, a.drop m] u ((HK.out.ext hbw3).extM hu) (by omega) (hf 20 rfl (by decide) rfl) (by rw [flat2]; first | omega | (simp; omega) | simp)).mono ?_
    rintro _ u' ⟨rfl, hb⟩
    exact ⟨by rw [HM2.out], hx hu hb⟩
  refine VE_ex (v := .bool true) rfl rfl rfl (fun u hu hf => (r_eqlB arA35 (rho_env rfl) (rho_env rfl) L2.out L2.out).trans (by simp)) ?_
  refine VE_ex (v := .bool true) rfl rfl rfl (fun u hu hf => r_pickT (rho_env rfl) (rho_env rfl)) ?_
  refine VE_ex (v := .bool true) rfl rfl rfl (fun u hu hf => r_move (rho_env rfl)) ?_
  refine VE_ex (v := .slice ka key.length kc) rfl rfl rfl (fun u hu hf => r_move (rho_base rfl rfl)) ?_
  refine VE_ex (v := .slice aa a.length ac) rfl rfl rfl (fun u hu hf => r_move (rho_base rfl rfl)) ?_
  refine VE_any rfl rfl (fun u hu hf => ?_) ?_
  · exact ⟨_, _, r_build39 u (rho_env rfl), hx hu ((Below.refl _ _).alloc (Nat.le_refl _) _), Lst.one ((HA.out.ext hbw3).extM hu)⟩
  refine VE_call (v := .agg (M3.map B).toArray) (f := 24) (args := #[.slice ka key.length kc, x 27]) rfl rfl rfl (fun u => r_call pf24 (map2 (rho_env rfl) (rho_env rfl)) rfl) (fun u hu hf => ?_) ?_
  · refine (mac_any _ _ key [a] u ((HK.out.ext hbw3).extM hu) (hf 27 rfl (by decide) rfl) (by omega) (len1 (by omega))).mono ?_
    rintro _ u' ⟨rfl, hb⟩
    exact ⟨by rw [HM3.out], hx hu hb⟩
  refine VE_ex (v := .slice ka key.length kc) rfl rfl rfl (fun u hu hf => r_move (rho_base rfl rfl)) ?_
  refine VE_ex (v := .slice aa a.length ac) rfl rfl rfl (fun u hu hf => r_move (rho_base rfl rfl)) ?_
  refine VE_any rfl rfl (fun u hu hf => ?_) ?_
  · exact ⟨_, _, r_build39 u (rho_env rfl), hx hu ((Below.refl _ _).alloc (Nat.le_refl _) _), Lst.one ((HA.out.ext hbw3).extM hu)⟩
  refine VE_call (v := .agg (M3.map B).toArray) (f := 25) (args := #[.slice ka key.length kc, x 31]) rfl rfl rfl (fun u => r_call pf25 (map2 (rho_env rfl) (rho_env rfl)) rfl) (fun u hu hf => ?_) ?_
  · refine (rmac_any _ _ key [a] u ((HK.out.ext hbw3).extM hu) (by omega) (hf 31 rfl (by decide) rfl) (by rw [flat1]; first | omega | (simp; omega) | simp)).mono ?_
    rintro _ u' ⟨rfl, hb⟩
    exact ⟨by rw [HM3.out], hx hu hb⟩
  refine VE_ex (v := .bool true) rfl rfl rfl (fun u hu hf => (r_eqlB arA35 (rho_env rfl) (rho_env rfl) L3.out L3.out).trans (by simp)) ?_
  refine VE_ex (v := .bool true) rfl rfl rfl (fun u hu hf => r_pickT (rho_env rfl) (rho_env rfl)) ?_
  refine VE_ex (v := .bool true) rfl rfl rfl (fun u hu hf => r_move (rho_env rfl)) ?_
  refine VE_ex (v := .slice ka key.length kc) rfl rfl rfl (fun u hu hf => r_move (rho_base rfl rfl)) ?_
  refine VE_ex (v := .slice aa a.length ac) rfl rfl rfl (fun u hu hf => r_move (rho_base rfl rfl)) ?_
  refine VE_any rfl rfl (fun u hu hf => ?_) ?_
  · exact ⟨_, _, r_build39_2 u (rho_env rfl) rho_const, hx hu ((Below.refl _ _).alloc (Nat.le_refl _) _), Lst.two ((HA.out.ext hbw3).extM hu) (Byt.nil _)⟩
  refine VE_call (v := .agg (M4.map B).toArray) (f := 24) (args := #[.slice ka key.length kc, x 38]) rfl rfl rfl (fun u => r_call pf24 (map2 (rho_env rfl) (rho_env rfl)) rfl) (fun u hu hf => ?_) ?_
  · refine (mac_any _ _ key [a, []] u ((HK.out.ext hbw3).extM hu) (hf 38 rfl (by decide) rfl) (by omega) (len2 (by omega) (by simp))).mono ?_
    rintro _ u' ⟨rfl, hb⟩
    exact ⟨by rw [HM4.out], hx hu hb⟩
  refine VE_ex (v := .slice ka key.length kc) rfl rfl rfl (fun u hu hf => r_move (rho_base rfl rfl)) ?_
  refine VE_ex (v := .slice aa a.length ac) rfl rfl rfl (fun u hu hf => r_move (rho_base rfl rfl)) ?_
  refine VE_any rfl rfl (fun u hu hf => ?_) ?_
  · exact ⟨_, _, r_build39_2 u (rho_env rfl) rho_const, hx hu ((Below.refl _ _).alloc (Nat.le_refl _) _), Lst.two ((HA.out.ext hbw3).extM hu) (Byt.nil _)⟩
  refine VE_call (v := .agg (M4.map B).toArray) (f := 25) (args := #[.slice ka key.length kc, x 42]) rfl rfl rfl (fun u => r_call pf25 (map2 (rho_env rfl) (rho_env rfl)) rfl) (fun u hu hf => ?_) ?_
  · refine (rmac_any _ _ key [a, []] u ((HK.out.ext hbw3).extM hu) (by omega) (hf 42 rfl (by decide) rfl) (by rw [flat2]; first | omega | (simp; omega) | simp)).mono ?_
    rintro _ u' ⟨rfl, hb⟩
    exact ⟨by rw [HM4.out], hx hu hb⟩
  refine VE_ex (v := .bool true) rfl rfl rfl (fun u hu hf => (r_eqlB arA35 (rho_env rfl) (rho_env rfl) L4.out L4.out).trans (by simp)) ?_
  refine VE_ex (v := .bool true) rfl rfl rfl (fun u hu hf => r_pickT (rho_env rfl) (rho_env rfl)) ?_
  refine VE_ex (v := .bool true) rfl rfl rfl (fun u hu hf => r_assign (rho_env rfl)) ?_
  refine VE_nil fun u hu hf => ?_
  rw [withEnv_norm (rfl : setsL _ 0 _ = [_, _, _, _, _, _, _, _, _, _, _, _, _, _, _, _, _, _, _, _, _, _, _, _, _, _, _, _, _, _, _, _, _, _, _, _, _, _, _, _, _, _, _, _, _, _, _, _, _, _, _, _, _, _, _, _, _, _, _, _, _, _, _, _, _, _, _, _, _, _, _, _, _, _, _, _, _, _, _, _, _, _, _, _, _, _, _, _, _, _, _, _, _, _, _, _, _])]
  have hbu := hbw3.trans (hu.below.mono hbw3.size)
  clear hS2' hS3 hbw3 hx hf hu
  go_wp2
  go_ret
  exact ⟨rfl, hbu⟩
set_option maxRecDepth 100000 in
set_option maxHeartbeats 2000000 in
theorem partslaw_any (kv : Value) (key : List UInt8) (av : Value) (a : List UInt8) (cut other : Int) (w : World) (hk : Byt w kv key) (ha : Byt w av a) (hc : -9223372036854775808 ≤ cut ∧ cut ≤ 9223372036854775807) (ho : -9223372036854775808 ≤ other ∧ other ≤ 9223372036854775807) :
    Calls Try.prog 9 #[kv, av, .int .i64 cut, .int .i64 other] w fun e w' => e = .returned (.bool true) ∧ Below w.heap.size w w' := by
  by_cases h : key.length ≤ 60 ∧ a.length ≤ 100
  · exact parts_main kv av key a cut other w hk ha hc ho h.1 h.2
  · obtain ⟨ka, kc, rfl, _, hkm⟩ := hk.len
    obtain ⟨aa, ac, rfl, _, ham⟩ := ha.len
    unfold maxLen at hkm ham
    clear hk ha
    have hh : ((60 : Int) < (key.length : Int)) ∨ (¬ ((60 : Int) < (key.length : Int)) ∧ ((100 : Int) < (a.length : Int))) := by omega
    clear h
    rcases hh with h0 | ⟨h0, h1⟩
    all_goals
      go_enter Try.func9, Try.ntmps9
      go_wp2_with fail
      refine (known_any _).mono ?_
      rintro _ w1 ⟨rfl, hb1⟩
      go_wp2
      go_ret
      exact ⟨rfl, hb1⟩
end Go.Proofs.Ytbbpcgodjncflaa
