/-
  A part of the proofs of this seat: laws of the walk, or contracts of the functions that the statements reach. No conditions but those that each theorem names.
-/
import Derived.Test.YtbbpcgodjncflaaL13
namespace Go.Proofs.Ytbbpcgodjncflaa
open Go.RowKit Go.Sp
set_option maxRecDepth 100000 in
set_option maxHeartbeats 8000000 in
theorem times_main (kv sv : Value) (key salt : List UInt8) (n : Int) (w : World) (hk : Byt w kv key) (hs : Byt w sv salt) (hn : -9223372036854775808 ≤ n ∧ n ≤ 9223372036854775807) (h0 : key.length ≤ 60) (h1 : salt.length ≤ 60) :
    Calls Try.prog 14 #[kv, sv, .int .i64 n] w fun e w' => e = .returned (.bool true) ∧ Below w.heap.size w w' := by
  have HK := Lib.hid hk
  have HS := Lib.hid hs
  obtain ⟨ka, kc, rfl, hkc, hkm⟩ := hk.len
  obtain ⟨sa, sc, rfl, hsc, hsm⟩ := hs.len
  unfold maxLen at hkm hsm
  clear hk hs
  have h0' : ¬ ((60 : Int) < (key.length : Int)) := by omega
  have h1' : ¬ ((60 : Int) < (salt.length : Int)) := by omega
  go_enter Try.func14, Try.ntmps14
  go_wp2_with fail
  refine (known_any _).mono ?_
  rintro _ w1 ⟨rfl, hbw1⟩
  go_wp2_with fail
  refine (within_nat n 10 hn (by decide) (by decide) _).mono ?_
  rintro _ wx ⟨k, rfl, -, hq, rfl⟩
  have hk' : k < 10 := by omega
  clear hq
  go_wp2_with fail
  refine (stretch_any _ _ key salt (1 + (k : Int)) _ (HK.out.ext hbw1) (HS.out.ext hbw1) (by omega) (by omega) (by omega)).mono ?_
  rintro _ w2 ⟨rfl, hb2⟩
  rw [show strN (1 + (k : Int)) = k by unfold strN; omega]
  have hbw2 := hbw1.trans (hb2.mono hbw1.size)
  clear hbw1 hb2
  go_wp2_with fail
  refine (stretch_any _ _ key salt (1 + (k : Int) + 1) _ (HK.out.ext hbw2) (HS.out.ext hbw2) (by omega) (by omega) (by omega)).mono ?_
  rintro _ w3 ⟨rfl, hb3⟩
  rw [show strN (1 + (k : Int) + 1) = k + 1 by unfold strN; omega]
  have hbw3 := hbw2.trans (hb3.mono hbw2.size)
  clear hbw2 hb3
  obtain ⟨A, hA⟩ : ∃ A, A = strX key salt k := ⟨_, rfl⟩
  obtain ⟨D, hD⟩ : ∃ D, D = strX key salt (k + 1) := ⟨_, rfl⟩
  have hAl : A.length = 16 := by rw [hA]; exact strX_length _ _ _
  have hDl : D.length = 16 := by rw [hD]; exact strX_length _ _ _
  have hAD : xorTo 16 A (strU key salt (k + 1)) = D := by rw [hA, hD, strX]
  rw [← hA, ← hD]
  have HAL := Lib.hid hAl
  have HDL := Lib.hid hDl
  have HAD := Lib.hid hAD
  clear hA hD hAl hDl hAD
  go_wp2_with (refine (show wpList _ _ _ (⟨none, .store 35 (.tmp 8) (.tmp 29), _, _, _, _⟩ :: _) _ _ from stop_here ?_))
  have hr8 : Blk ((w3.alloc (.cells ((List.replicate 16 (0 : UInt8)).map B).toArray 35)).alloc (.cells ((List.replicate 16 (0 : UInt8)).map B).toArray 35)) w3.heap.size ((List.replicate 16 (0 : UInt8)).map B).toArray 35 := (Blk.new w3 _ 35).alloc _
  have hr9 : Blk ((w3.alloc (.cells ((List.replicate 16 (0 : UInt8)).map B).toArray 35)).alloc (.cells ((List.replicate 16 (0 : UInt8)).map B).toArray 35)) (w3.heap.size + 1) ((List.replicate 16 (0 : UInt8)).map B).toArray 35 := Blk.newAt (by simp) _ 35
  have hbb : Below w3.heap.size w3 ((w3.alloc (.cells ((List.replicate 16 (0 : UInt8)).map B).toArray 35)).alloc (.cells ((List.replicate 16 (0 : UInt8)).map B).toArray 35)) := ((Below.refl _ _).alloc (Nat.le_refl _) _).alloc (by simp) _
  refine Stop.go (wpList_store_blk rfl rfl rfl rfl hr8 ((size35 HAL.out).2 (List.replicate 16 0) rfl) (size35 HAL.out).1 (bytes_one _) ?_)
  intro w4 hR8 hO4
  have hR9 := hr9.only hO4 (by omega)
  have hb4 := hbb.trans (hO4.below (Nat.le_refl _) hbb.size)
  clear hr8 hr9 hbb hO4
  go_wp2_with (refine (show wpList _ _ _ (⟨none, .store 35 (.tmp 9) (.tmp 34), _, _, _, _⟩ :: _) _ _ from stop_here ?_))
  refine Stop.go (wpList_store_blk rfl rfl rfl rfl hR9 ((size35 HDL.out).2 (List.replicate 16 0) rfl) (size35 HDL.out).1 (bytes_one _) ?_)
  intro w5 hR95 hO5
  have hR85 := hR8.only hO5 (by omega)
  have hb5 := hb4.trans (hO5.below (by omega) hb4.size)
  have hbw5 := hbw3.trans (hb5.mono hbw3.size)
  have hl9 : w3.heap.size + 1 < w5.heap.size := hR95.lt
  have hl3 := hbw3.size
  clear hR8 hR9 hb4 hO5 hb5 hbw3
  go_wp2_with fail
  have ha6 := (Below.refl w5.heap.size w5).alloc (Nat.le_refl _) (.cells #[.slice sa salt.length sc] 29)
  have hk6 := (HK.out.ext hbw5).ext ha6
  refine (rmac_any _ _ key [salt] _ hk6 (by omega) (Lst.one (HS.out.ext hbw5)) (by rw [flat1]; omega)).mono ?_
  rintro _ w6 ⟨rfl, hb6⟩
  have hbb := ha6.trans (hb6.mono ha6.size)
  have hR86 := hR85.ext hbb
  have hR96 := hR95.ext hbb
  have hbw6 := hbw5.trans (hbb.mono hbw5.size)
  have hl6 := hbb.size
  clear ha6 hk6 hb6 hbb hR85 hR95 hbw5
  obtain ⟨U0, hU0⟩ : ∃ U, U = macB key [salt] := ⟨_, rfl⟩
  have hU0l : U0.length = 16 := by rw [hU0]; exact macB_length _ _
  rw [← hU0]
  have HU0 : Hid (strU key salt 0 = U0) := Lib.hid (by rw [hU0]; rfl)
  have HU0L := Lib.hid hU0l
  clear hU0 hU0l
  go_wp2_with (refine (show wpList _ _ _ (⟨none, .store 35 (.tmp 10) (.tmp 38), _, _, _, _⟩ :: _) _ _ from stop_here ?_))
  refine Stop.go (wpList_store_blk rfl rfl rfl rfl (Blk.new w6 _ 35) ((size35 HU0L.out).2 (List.replicate 16 0) rfl) (size35 HU0L.out).1 (bytes_one _) ?_)
  intro w7 hR107 hO7
  have hb7 : Below w6.heap.size w6 w7 := ((Below.refl _ _).alloc (Nat.le_refl _) _).trans (hO7.below (Nat.le_refl _) (by simp))
  have hR87 := hR86.ext hb7
  have hR97 := hR96.ext hb7
  have hbw7 := hbw6.trans (hb7.mono hbw6.size)
  clear hR86 hR96 hb7 hO7 hbw6
  go_wp2
  go_loopw [11] (fun i wr => ∃ j : Nat, j ≤ k + 1 ∧ i = .int .i64 j ∧ Blk wr w3.heap.size (A.map B).toArray 35 ∧ Blk wr (w3.heap.size + 1) (D.map B).toArray 35 ∧ Blk wr w6.heap.size ((strU key salt j).map B).toArray 35 ∧ Below w.heap.size w wr) (fun i _ => (k + 1 - intOf i).toNat)
  case atStart => exact ⟨0, by omega, rfl, hR87, hR97, by rw [HU0.out]; exact hR107, hbw7⟩
  case round =>
    clear hR87 hR97 hR107 hbw7
    obtain ⟨j, hj, rfl, hR8, hR9, hR10, hbw⟩ := hrel
    have HUL := Lib.hid (strU_length key salt j)
    by_cases hlt : j < k + 1
    · have hlt' : (j : Int) < 1 + (k : Int) := by omega
      go_wp2_with (refine (show wpList _ _ _ (⟨some 45, .load 35 (.tmp 10), _, _, _, _⟩ :: _) _ _ from stop_here ?_))
      refine Stop.go (wpList_val rfl (r_loadBlk rfl hR10 Try.underlying35 rfl (size35 HUL.out).1) ?_)
      go_wp2_with fail
      refine (rbytes_any (strU key salt j) _ HUL.out).mono ?_
      rintro _ v0 ⟨bv, rfl, hbo, hb0⟩
      have hbv := hbo.byt
      obtain ⟨va, vc, rfl, hvc, hvm⟩ := hbv.len
      unfold maxLen at hvm
      have hR80 := hR8.ext hb0
      have hR90 := hR9.ext hb0
      have hR100 := hR10.ext hb0
      have hbw0' := hbw.trans (hb0.mono hbw.size)
      clear hb0 hR8 hR9 hR10 hbw hbo
      go_wp2_with fail
      have ha := (Below.refl v0.heap.size v0).alloc (Nat.le_refl _) (.cells #[.slice va (strU key salt j).length vc] 29)
      have hKr := (HK.out.ext hbw0').ext ha
      refine (rmac_any _ _ key [strU key salt j] _ hKr (by omega) (Lst.one hbv) (by rw [flat1, HUL.out]; decide)).mono ?_
      rintro _ v1 ⟨rfl, hb1⟩
      have hbb := ha.trans (hb1.mono ha.size)
      have hR81 := hR80.ext hbb
      have hR91 := hR90.ext hbb
      have hR101 := hR100.ext hbb
      have hbw1' := hbw0'.trans (hbb.mono hbw0'.size)
      clear ha hKr hb1 hbb hR80 hR90 hR100 hbw0' hbv hvc hvm
      obtain ⟨U, hU⟩ : ∃ U, U = macB key [strU key salt j] := ⟨_, rfl⟩
      rw [← hU]
      have hUl : U.length = 16 := by rw [hU]; exact macB_length _ _
      have hUs : strU key salt (j + 1) = U := by rw [hU]; rfl
      have HUs := Lib.hid hUs
      have HUn := Lib.hid hUl
      clear hU hUl hUs
      go_wp2_with (refine (show wpList _ _ _ (⟨none, .store 35 (.tmp 10) (.tmp 48), _, _, _, _⟩ :: _) _ _ from stop_here ?_))
      refine Stop.go (wpList_store_blk rfl rfl rfl rfl hR101 ((size35 HUn.out).2 _ HUL.out) (size35 HUn.out).1 (bytes_one _) ?_)
      intro v2 hR102 hO2
      have hR82 := hR81.only hO2 (by omega)
      have hR92 := hR91.only hO2 (by omega)
      have hbw2' := hbw1'.trans (hO2.below (by omega) hbw1'.size)
      clear hO2 hR81 hR91 hR101 hbw1'
      go_wp2
      go_roundw
      case rel => exact ⟨j + 1, by omega, by go_num, hR82, hR92, by rw [HUs.out]; exact hR102, hbw2'⟩
      case measure => simp [intOf]; omega
    · have hjk : j = k + 1 := by omega
      have hge : ¬ ((j : Int) < 1 + (k : Int)) := by omega
      have HADJ : Hid (xorTo 16 A (strU key salt j) = D) := Lib.hid (by rw [hjk]; exact HAD.out)
      clear hjk hlt
      go_wp2
      go_loopw [12] (fun i wr => ∃ m : Nat, m ≤ 16 ∧ i = .int .i64 m ∧ Blk wr w3.heap.size ((xorTo m A (strU key salt j)).map B).toArray 35 ∧ Blk wr (w3.heap.size + 1) (D.map B).toArray 35 ∧ Blk wr w6.heap.size ((strU key salt j).map B).toArray 35 ∧ Below w.heap.size w wr) (fun i _ => (16 - intOf i).toNat)
      case atStart => exact ⟨0, by omega, rfl, hR8, hR9, hR10, hbw⟩
      case round =>
        clear hR8 hR9 hR10 hbw
        obtain ⟨m, hm, rfl, hR8, hR9, hR10, hbw⟩ := hrel
        by_cases hlm : m < 16
        · have hlm' : (m : Int) < 16 := by omega
          have hXl : (xorTo m A (strU key salt j)).length = 16 := by rw [xorTo_length]; exact HAL.out
          obtain ⟨x, hx⟩ : ∃ x, (xorTo m A (strU key salt j))[m]? = some x := ⟨_, List.getElem?_eq_getElem (by omega)⟩
          obtain ⟨y, hy⟩ : ∃ y, (strU key salt j)[m]? = some y := ⟨_, List.getElem?_eq_getElem (by have := HUL.out; omega)⟩
          have hsx : xorTo (m + 1) A (strU key salt j) = (xorTo m A (strU key salt j)).set m (x ^^^ y) := by rw [xorTo, hx, hy]; rfl
          have hc8 : wr.drew.cell? ⟨w3.heap.size, m, none⟩ = some (B x) := by rw [hR8.drew.cell]; simp [hx]
          have hc7 : wr.drew.cell? ⟨w6.heap.size, m, none⟩ = some (B y) := by rw [hR10.drew.cell]; simp [hy]
          have hf8 := hR8.drew.frozen m
          have HSX := Lib.hid hsx
          clear hsx hx hy hXl
          go_wp2
          refine wp_region_T 9 (by kernel_rfl) (by kernel_rfl) (by kernel_rfl) ?_
          simp only [List.take_succ_cons, List.take_zero, List.drop_succ_cons, List.drop_zero]
          refine E_move (rho_base rfl rfl) ?_
          refine E_move (rho_base rfl rfl) ?_
          refine E_indexArr (o' := m) (rho_base rfl rfl) (rho_env rfl) ar35 ⟨by omega, by omega, by omega⟩ ?_
          refine E_load (rho_env rfl) on5 hc8 ?_
          refine E_move (rho_base rfl rfl) ?_
          refine E_indexArr (o' := m) (rho_base rfl rfl) (rho_env rfl) ar35 ⟨by omega, by omega, by omega⟩ ?_
          refine E_load (rho_env rfl) on5 hc7 ?_
          refine E_xorB (rho_env rfl) (rho_env rfl) ?_
          refine E_indexArr (o' := m) (rho_base rfl rfl) (rho_env rfl) ar35 ⟨by omega, by omega, by omega⟩ ?_
          refine E_nil ?_
          refine wpList_norm (rfl : setsL _ 0 _ = [_, _, _, _, _, _, _, _, _, _, _, _, _, _, _, _, _, _, _, _, _, _, _, _, _, _, _, _, _, _, _, _, _, _, _, _, _, _, _, _, _, _, _, _, _, _, _, _, _, _, _, _, _, _, _, _, _, _, _, _, _, _, _, _, _, _, _, _, _, _, _, _, _, _, _, _, _, _, _, _, _, _, _, _, _]) ?_
          go_wp2
          go_roundw
          case rel => exact ⟨m + 1, by omega, by go_num, by rw [HSX.out]; exact hR8.drew.setB m _, hR9.drew.setOther ⟨w3.heap.size, m, none⟩ _ (by show w3.heap.size + 1 ≠ w3.heap.size; omega), hR10.drew.setOther ⟨w3.heap.size, m, none⟩ _ (by show w6.heap.size ≠ w3.heap.size; omega), hbw.drew.setCell (p := ⟨w3.heap.size, m, none⟩) (by show w.heap.size ≤ w3.heap.size; omega) _⟩
          case measure => simp [intOf]; omega
        · obtain rfl : m = 16 := by omega
          rw [HADJ.out] at hR8
          go_wp2_with (refine (show wpList _ _ _ (⟨some 62, .load 35 (.tmp 8), _, _, _, _⟩ :: _) _ _ from stop_here ?_))
          refine Stop.go (wpList_val rfl (r_loadBlk rfl hR8 Try.underlying35 rfl (size35 HDL.out).1) ?_)
          go_wp2_with (refine (show wpList _ _ _ (⟨some 63, .load 35 (.tmp 9), _, _, _, _⟩ :: _) _ _ from stop_here ?_))
          refine Stop.go (wpList_val rfl (r_loadBlk rfl hR9 Try.underlying35 rfl (size35 HDL.out).1) ?_)
          clear hR8 hR9 hR10
          obtain ⟨O1, hO1⟩ : ∃ O, O = (D.map B).toArray := ⟨_, rfl⟩
          obtain ⟨O2, hO2⟩ : ∃ O, O = ((macB key [salt]).map B).toArray := ⟨_, rfl⟩
          have heq1 : ∀ w, (binOp .eql 35 (.agg O1) (.agg O1)).run Try.prog w = .ok (.bool true) w := by rw [hO1]; exact eq35 _ HDL.out
          have heq2 : ∀ w, (binOp .eql 35 (.agg O2) (.agg O2)).run Try.prog w = .ok (.bool true) w := by rw [hO2]; exact eq35 _ (macB_length _ _)
          have hgd : ∀ x y A A' w, (eqGuard .eql 35 x y (.agg A) (.agg A')).run Try.prog w = .ok () w := fun x y A A' w => gd35 _ _ _ _ _ _
          rw [← hO1]
          have HO2 := Lib.hid hO2
          have HS2 : Hid (((strX key salt 0).map B).toArray = O2) := Lib.hid (by rw [hO2]; rfl)
          clear hO1 hO2
          go_wp2_with fail
          refine (stretch_any _ _ key salt 1 _ (HK.out.ext hbw) (HS.out.ext hbw) (by omega) (by omega) (by decide)).mono ?_
          rintro _ z1 ⟨rfl, hb1⟩
          rw [show strN 1 = 0 by decide, HS2.out]
          have hbwz1 := hbw.trans (hb1.mono hbw.size)
          clear hb1 hbw
          go_wp2_with fail
          have ha2 := (Below.refl z1.heap.size z1).alloc (Nat.le_refl _) (.cells #[.slice sa salt.length sc] 29)
          have hkx2 := (HK.out.ext hbwz1).ext ha2
          refine (mac_any _ _ key [salt] _ hkx2 (Lst.one (HS.out.ext hbwz1)) (by omega) (len1 (by omega))).mono ?_
          rintro _ z2 ⟨rfl, hb2⟩
          rw [← HO2.out]
          have hbwz2 := hbwz1.trans ((ha2.trans (hb2.mono ha2.size)).mono hbwz1.size)
          clear ha2 hkx2 hb2 hbwz1
          go_wp2_with fail
          refine (stretch_any _ _ key salt 0 _ (HK.out.ext hbwz2) (HS.out.ext hbwz2) (by omega) (by omega) (by decide)).mono ?_
          rintro _ z3 ⟨rfl, hb3⟩
          rw [show strN 0 = 0 by decide, HS2.out]
          have hbwz3 := hbwz2.trans (hb3.mono hbwz2.size)
          clear hb3 hbwz2
          go_wp2_with fail
          have ha4 := (Below.refl z3.heap.size z3).alloc (Nat.le_refl _) (.cells #[.slice sa salt.length sc] 29)
          have hkx4 := (HK.out.ext hbwz3).ext ha4
          refine (mac_any _ _ key [salt] _ hkx4 (Lst.one (HS.out.ext hbwz3)) (by omega) (len1 (by omega))).mono ?_
          rintro _ z4 ⟨rfl, hb4⟩
          rw [← HO2.out]
          have hbwz4 := hbwz3.trans ((ha4.trans (hb4.mono ha4.size)).mono hbwz3.size)
          clear ha4 hkx4 hb4 hbwz3
          go_wp2
          go_ret
          exact ⟨rfl, hbwz4⟩
set_option maxHeartbeats 2000000 in
theorem times_any (kv : Value) (key : List UInt8) (sv : Value) (salt : List UInt8) (n : Int) (w : World) (hk : Byt w kv key) (hs : Byt w sv salt) (hn : -9223372036854775808 ≤ n ∧ n ≤ 9223372036854775807) :
    Calls Try.prog 14 #[kv, sv, .int .i64 n] w fun e w' => e = .returned (.bool true) ∧ Below w.heap.size w w' := by
  by_cases h : key.length ≤ 60 ∧ salt.length ≤ 60
  · exact times_main kv sv key salt n w hk hs hn h.1 h.2
  obtain ⟨ka, kc, rfl, hkc, hkm⟩ := hk.len
  obtain ⟨sa, sc, rfl, hsc, hsm⟩ := hs.len
  unfold maxLen at hkm hsm
  by_cases h0 : (60 : Int) < (key.length : Int)
  · go_enter Try.func14, Try.ntmps14
    go_wp2_with fail
    refine (known_any _).mono ?_
    rintro _ w1 ⟨rfl, hbw⟩
    go_wp2
    go_ret
    exact ⟨rfl, hbw⟩
  · have h1 : (60 : Int) < (salt.length : Int) := by omega
    clear h
    go_enter Try.func14, Try.ntmps14
    go_wp2_with fail
    refine (known_any _).mono ?_
    rintro _ w1 ⟨rfl, hbw⟩
    go_wp2
    go_ret
    exact ⟨rfl, hbw⟩
end Go.Proofs.Ytbbpcgodjncflaa
