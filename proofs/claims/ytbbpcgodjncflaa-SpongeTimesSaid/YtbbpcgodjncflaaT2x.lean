/-
  A part of the proofs of this seat: laws of the walk, or contracts of the functions that the statements reach. No conditions but those that each theorem names.
-/
import Derived.Test.YtbbpcgodjncflaaT1x
namespace Go.Proofs.Ytbbpcgodjncflaa
open Go.RowKit Go.Sp
set_option maxRecDepth 100000 in
set_option maxHeartbeats 4000000 in
theorem rstretch_main (a : Option Addr) (c : Nat) (key : List UInt8) (sa : Option Addr) (sc : Nat) (salt : List UInt8) (n : Int) (w : World) (hk : Byt w (.slice a key.length c) key) (hs : Byt w (.slice sa salt.length sc) salt)
    (hkl : key.length ≤ 549755813888) (hsl : salt.length ≤ 500000000000) (hn : -9223372036854775808 ≤ n ∧ n ≤ 9223372036854775807) :
    Calls Try.prog 32 #[.slice a key.length c, .slice sa salt.length sc, .int .i64 n] w fun e w' => e = .returned (.agg ((strX key salt (strN n)).map B).toArray) ∧ Below w.heap.size w w' := by
  have HK := Lib.hid hk
  have HS := Lib.hid hs
  clear hk hs
  obtain ⟨N, hN⟩ : ∃ N, N = strN n := ⟨_, rfl⟩
  have hN1 : (N : Int) = max (min n 1000) 1 - 1 := by rw [hN]; unfold strN; omega
  rw [← hN]
  have HKL := Lib.hid hkl
  clear hN
  go_enter Try.func32, Try.ntmps32
  go_wp2_with fail
  have hz := zero16
  have hR6 : Blk (w.alloc (.cells ((List.replicate 16 (0 : UInt8)).map B).toArray 35)) w.heap.size ((List.replicate 16 (0 : UInt8)).map B).toArray 35 := Blk.new w _ 35
  have hbw1 : Below w.heap.size w (w.alloc (.cells ((List.replicate 16 (0 : UInt8)).map B).toArray 35)) := (Below.refl _ w).alloc (Nat.le_refl _) _
  have hsz1 : (w.alloc (.cells ((List.replicate 16 (0 : UInt8)).map B).toArray 35)).heap.size = w.heap.size + 1 := by simp
  have hzz : ((List.replicate 16 (0 : UInt8)).map B).toArray.size = 16 := rfl
  rw [hz] at hbw1 hsz1
  rw [show w.alloc (.cells ((List.replicate 16 (0 : UInt8)).map B).toArray 35) = w.alloc (.cells #[.int .u8 0, .int .u8 0, .int .u8 0, .int .u8 0, .int .u8 0, .int .u8 0, .int .u8 0, .int .u8 0, .int .u8 0, .int .u8 0, .int .u8 0, .int .u8 0, .int .u8 0, .int .u8 0, .int .u8 0, .int .u8 0] 35) by rw [hz]] at hR6
  rw [← hsz1]
  generalize w.alloc (.cells #[.int .u8 0, .int .u8 0, .int .u8 0, .int .u8 0, .int .u8 0, .int .u8 0, .int .u8 0, .int .u8 0, .int .u8 0, .int .u8 0, .int .u8 0, .int .u8 0, .int .u8 0, .int .u8 0, .int .u8 0, .int .u8 0] 35) = w1 at *
  clear hz hzz
  have HSZ1 := Lib.hid hsz1
  clear hsz1
  have ha2 := (Below.refl w1.heap.size w1).alloc (Nat.le_refl _) (.cells #[.slice sa salt.length sc] 29)
  have hk2 := (HK.out.ext hbw1).ext ha2
  refine (rmac_any _ _ key [salt] _ hk2 HKL.out (Lst.one (HS.out.ext hbw1)) (by rw [flat1]; omega)).mono ?_
  rintro _ w2 ⟨rfl, hb2⟩
  have hbb2 := ha2.trans (hb2.mono ha2.size)
  have hR62 := hR6.ext hbb2
  have hbw2 := hbw1.trans (hbb2.mono hbw1.size)
  have hl62 := hR6.lt
  have hs12 := hbb2.size
  clear hk2 ha2 hb2 hbb2 hR6 hbw1
  obtain ⟨A, hA⟩ : ∃ A, A = macB key [salt] := ⟨_, rfl⟩
  have hAl : A.length = 16 := by rw [hA]; exact macB_length _ _
  rw [← hA]
  have HA := Lib.hid hA
  have HAL := Lib.hid hAl
  clear hA hAl
  go_wp2_with (refine (show wpList _ _ _ (⟨none, .store 35 (.tmp 7) (.tmp 14), _, _, _, _⟩ :: _) _ _ from stop_here ?_))
  refine Stop.go (wpList_store_blk rfl rfl rfl rfl (Blk.new w2 _ 35) ((size35 HAL.out).2 (List.replicate 16 0) rfl) (size35 HAL.out).1 (bytes_one _) ?_)
  intro w3 hR73 hO3
  have hb3 : Below w2.heap.size w2 w3 := ((Below.refl _ _).alloc (Nat.le_refl _) _).trans (hO3.below (Nat.le_refl _) (by simp))
  have hR63 := hR62.ext hb3
  have hbw3 := hbw2.trans (hb3.mono hbw2.size)
  have hl72 : w2.heap.size < w3.heap.size := hR73.lt
  clear hO3 hb3 hR62 hbw2
  go_wp2_with (refine (show wpList _ _ _ (⟨some 15, .load 35 (.tmp 7), _, _, _, _⟩ :: _) _ _ from stop_here ?_))
  refine Stop.go (wpList_val rfl (r_loadBlk rfl hR73 Try.underlying35 rfl (size35 HAL.out).1) ?_)
  go_wp2_with (refine (show wpList _ _ _ (⟨none, .store 35 (.tmp 8) (.tmp 15), _, _, _, _⟩ :: _) _ _ from stop_here ?_))
  refine Stop.go (wpList_store_blk rfl rfl rfl rfl (Blk.new w3 _ 35) ((size35 HAL.out).2 (List.replicate 16 0) rfl) (size35 HAL.out).1 (bytes_one _) ?_)
  intro w4 hR84 hO4
  have hb4 : Below w3.heap.size w3 w4 := ((Below.refl _ _).alloc (Nat.le_refl _) _).trans (hO4.below (Nat.le_refl _) (by simp))
  have hR64 := hR63.ext hb4
  have hR74 := hR73.ext hb4
  have hbw4 := hbw3.trans (hb4.mono hbw3.size)
  have hl83 : w3.heap.size < w4.heap.size := hR84.lt
  clear hO4 hb4 hR63 hR73 hbw3
  have hN0 : (N : Int) ≤ 999 := by omega
  have HN1 := Lib.hid hN1
  clear hN1
  go_wp2
  go_loopw [9] (fun i wr => ∃ j : Nat, j ≤ N ∧ i = .int .i64 ((j : Int) + 1) ∧ Blk wr w3.heap.size ((strX key salt j).map B).toArray 35 ∧ Blk wr w2.heap.size ((strU key salt j).map B).toArray 35 ∧ Blk wr w.heap.size ((List.replicate 16 (0 : UInt8)).map B).toArray 35 ∧ Below w.heap.size w wr) (fun i _ => (N + 1 - intOf i).toNat)
  case atStart => exact ⟨0, by omega, by go_num, by rw [strX, ← HA.out]; exact hR84, by rw [strU, ← HA.out]; exact hR74, hR64, hbw4⟩
  case round =>
    clear hR84 hR74 hR64 hbw4
    obtain ⟨j, hj, rfl, hR8, hR7, hR6, hbw⟩ := hrel
    have HUL := Lib.hid (strU_length key salt j)
    by_cases hlt : j < N
    · have hlt' : (j : Int) + 1 < n := by have := HN1.out; omega
      have hlt2 : (j : Int) + 1 < 1000 := by omega
      have hlt3 : (j : Int) + 1 + 1 ≤ 1000 := by omega
      go_wp2_with (refine (show wpList _ _ _ (⟨some 26, .load 35 (.tmp 7), _, _, _, _⟩ :: _) _ _ from stop_here ?_))
      refine Stop.go (wpList_val rfl (r_loadBlk rfl hR7 Try.underlying35 rfl (size35 HUL.out).1) ?_)
      go_wp2_with fail
      refine (rbytes_any (strU key salt j) _ HUL.out).mono ?_
      rintro _ v0 ⟨bv, rfl, hbo, hb0⟩
      have hbv := hbo.byt
      obtain ⟨va, vc, rfl, hvc, hvm⟩ := hbv.len
      unfold maxLen at hvm
      have hR60 := hR6.ext hb0
      have hR70 := hR7.ext hb0
      have hR80 := hR8.ext hb0
      have hbw0' := hbw.trans (hb0.mono hbw.size)
      have hs0' := hb0.size
      clear hb0 hR6 hR7 hR8 hbw hbo
      go_wp2_with fail
      have ha := (Below.refl v0.heap.size v0).alloc (Nat.le_refl _) (.cells #[.slice va (strU key salt j).length vc] 29)
      have hKr := (HK.out.ext hbw0').ext ha
      refine (rmac_any _ _ key [strU key salt j] _ hKr HKL.out (Lst.one hbv) (by rw [flat1, HUL.out]; decide)).mono ?_
      rintro _ v1 ⟨rfl, hb1⟩
      have hbb := ha.trans (hb1.mono ha.size)
      have hR61 := hR60.ext hbb
      have hR71 := hR70.ext hbb
      have hR81 := hR80.ext hbb
      have hbw1' := hbw0'.trans (hbb.mono hbw0'.size)
      clear hKr ha hb1 hbb hR60 hR70 hR80 hbw0' hbv hvc hvm
      obtain ⟨U, hU⟩ : ∃ U, U = macB key [strU key salt j] := ⟨_, rfl⟩
      rw [← hU]
      have hUl : U.length = 16 := by rw [hU]; exact macB_length _ _
      have hUs : strU key salt (j + 1) = U := by rw [hU]; rfl
      have HUs := Lib.hid hUs
      have HUn := Lib.hid hUl
      have HXs : Hid (strX key salt (j + 1) = xorTo 16 (strX key salt j) U) := Lib.hid (by rw [strX, hUs])
      clear hU hUl hUs
      go_wp2_with (refine (show wpList _ _ _ (⟨none, .store 35 (.tmp 7) (.tmp 29), _, _, _, _⟩ :: _) _ _ from stop_here ?_))
      refine Stop.go (wpList_store_blk rfl rfl rfl rfl hR71 ((size35 HUn.out).2 _ HUL.out) (size35 HUn.out).1 (bytes_one _) ?_)
      intro v2 hR72 hO2
      have hR62 := hR61.only hO2 (by omega)
      have hR82 := hR81.only hO2 (by omega)
      have hbw2' := hbw1'.trans (hO2.below (by omega) hbw1'.size)
      clear hO2 hR61 hR71 hR81 hbw1'
      go_wp2
      go_loopw [10] (fun i wr => ∃ m : Nat, m ≤ 16 ∧ i = .int .i64 m ∧ Blk wr w3.heap.size ((xorTo m (strX key salt j) U).map B).toArray 35 ∧ Blk wr w2.heap.size (U.map B).toArray 35 ∧ Blk wr w.heap.size ((List.replicate 16 (0 : UInt8)).map B).toArray 35 ∧ Below w.heap.size w wr) (fun i _ => (16 - intOf i).toNat)
      case atStart => exact ⟨0, by omega, rfl, hR82, hR72, hR62, hbw2'⟩
      case round =>
        clear hR82 hR72 hR62 hbw2'
        obtain ⟨m, hm, rfl, hR8, hR7, hR6, hbw⟩ := hrel
        by_cases hlm : m < 16
        · have hlm' : (m : Int) < 16 := by omega
          have hXl : (xorTo m (strX key salt j) U).length = 16 := by rw [xorTo_length, strX_length]
          obtain ⟨x, hx⟩ : ∃ x, (xorTo m (strX key salt j) U)[m]? = some x := ⟨_, List.getElem?_eq_getElem (by omega)⟩
          obtain ⟨y, hy⟩ : ∃ y, U[m]? = some y := ⟨_, List.getElem?_eq_getElem (by have := HUn.out; omega)⟩
          have hsx : xorTo (m + 1) (strX key salt j) U = (xorTo m (strX key salt j) U).set m (x ^^^ y) := by rw [xorTo, hx, hy]; rfl
          have hc8 : wr.drew.cell? ⟨w3.heap.size, m, none⟩ = some (B x) := by rw [hR8.drew.cell]; simp [hx]
          have hc7 : wr.drew.cell? ⟨w2.heap.size, m, none⟩ = some (B y) := by rw [hR7.drew.cell]; simp [hy]
          have hf8 := hR8.drew.frozen m
          have HSX := Lib.hid hsx
          clear hsx hx hy hXl
          go_wp2
          refine wp_region_T 9 (by kernel_rfl) (by kernel_rfl) (by kernel_rfl) ?_
          simp only [List.take_succ_cons, List.take_zero, List.drop_succ_cons, List.drop_zero]
          refine E_move (rho_base rfl rfl) ?_
          refine E_move (rho_base rfl rfl) ?_
          refine E_indexArr (o' := m) (rho_base rfl rfl) (rho_env rfl) ar35 ⟨by omega, by omega, by omega⟩ ?_
          refine E_load (rho_env rfl) on5 hc8 ?_
          refine E_move (rho_base rfl rfl) ?_
          refine E_indexArr (o' := m) (rho_base rfl rfl) (rho_env rfl) ar35 ⟨by omega, by omega, by omega⟩ ?_
          refine E_load (rho_env rfl) on5 hc7 ?_
          refine E_xorB (rho_env rfl) (rho_env rfl) ?_
          refine E_indexArr (o' := m) (rho_base rfl rfl) (rho_env rfl) ar35 ⟨by omega, by omega, by omega⟩ ?_
          refine E_nil ?_
          refine wpList_norm (rfl : setsL _ 0 _ = [_, _, _, _, _, _, _, _, _, _, _, _, _, _, _, _, _, _, _, _, _, _, _, _, _, _, _, _, _, _, _, _, _, _, _, _, _, _, _, _, _, _, _, _]) ?_
          go_wp2
          go_roundw
          case rel => exact ⟨m + 1, by omega, by go_num, by rw [HSX.out]; exact hR8.drew.setB m _, hR7.drew.setOther ⟨w3.heap.size, m, none⟩ _ (by show w2.heap.size ≠ w3.heap.size; omega), hR6.drew.setOther ⟨w3.heap.size, m, none⟩ _ (by show w.heap.size ≠ w3.heap.size; omega), hbw.drew.setCell (p := ⟨w3.heap.size, m, none⟩) (by show w.heap.size ≤ w3.heap.size; omega) _⟩
          case measure => simp [intOf]; omega
        · obtain rfl : m = 16 := by omega
          go_wp2
          go_roundw
          case rel => exact ⟨j + 1, by omega, by go_num, by rw [HXs.out]; exact hR8, by rw [HUs.out]; exact hR7, hR6, hbw⟩
          case measure => simp [intOf]; omega
    · obtain rfl : j = N := by omega
      by_cases hge : (j : Int) + 1 < n
      · have hge2 : ¬ ((j : Int) + 1 < 1000) := by have := HN1.out; omega
        have HXL := Lib.hid (strX_length key salt j)
        go_wp2_with (refine (show wpList _ _ _ (⟨some 43, .load 35 (.tmp 8), _, _, _, _⟩ :: _) _ _ from stop_here ?_))
        refine Stop.go (wpList_val rfl (r_loadBlk rfl hR8 Try.underlying35 rfl (size35 HXL.out).1) ?_)
        go_wp2_with (refine (show wpList _ _ _ (⟨none, .store 35 (.tmp 6) (.tmp 43), _, _, _, _⟩ :: _) _ _ from stop_here ?_))
        refine Stop.go (wpList_store_blk rfl rfl rfl rfl hR6 ((size35 HXL.out).2 (List.replicate 16 0) rfl) (size35 HXL.out).1 (bytes_one _) ?_)
        intro v2 hR2 hO2
        have hbw2' := hbw.trans (hO2.below (by omega) hbw.size)
        clear hO2 hR6 hR7 hR8 hbw
        go_wp2
        exact bodyPost_ret (results_cell_row rfl _ _ w.heap.size 35 _ (0, 0) _ rfl hR2 Try.underlying35 rfl (size35 HXL.out).1) rfl ⟨rfl, hbw2'⟩
      · clear hlt
        have HXL := Lib.hid (strX_length key salt j)
        go_wp2_with (refine (show wpList _ _ _ (⟨some 43, .load 35 (.tmp 8), _, _, _, _⟩ :: _) _ _ from stop_here ?_))
        refine Stop.go (wpList_val rfl (r_loadBlk rfl hR8 Try.underlying35 rfl (size35 HXL.out).1) ?_)
        go_wp2_with (refine (show wpList _ _ _ (⟨none, .store 35 (.tmp 6) (.tmp 43), _, _, _, _⟩ :: _) _ _ from stop_here ?_))
        refine Stop.go (wpList_store_blk rfl rfl rfl rfl hR6 ((size35 HXL.out).2 (List.replicate 16 0) rfl) (size35 HXL.out).1 (bytes_one _) ?_)
        intro v2 hR2 hO2
        have hbw2' := hbw.trans (hO2.below (by omega) hbw.size)
        clear hO2 hR6 hR7 hR8 hbw
        go_wp2
        exact bodyPost_ret (results_cell_row rfl _ _ w.heap.size 35 _ (0, 0) _ rfl hR2 Try.underlying35 rfl (size35 HXL.out).1) rfl ⟨rfl, hbw2'⟩
set_option maxHeartbeats 1000000 in
theorem stretch_any (kv sv : Value) (key salt : List UInt8) (n : Int) (w : World) (hk : Byt w kv key) (hs : Byt w sv salt) (hkl : key.length ≤ 549755813888) (hsl : salt.length ≤ 500000000000) (hn : -9223372036854775808 ≤ n ∧ n ≤ 9223372036854775807) :
    Calls Try.prog 31 #[kv, sv, .int .i64 n] w fun e w' => e = .returned (.agg ((strX key salt (strN n)).map B).toArray) ∧ Below w.heap.size w w' := by
  obtain ⟨ka, kc, rfl, hkc, hkm⟩ := hk.len
  obtain ⟨sa, sc, rfl, hsc, hsm⟩ := hs.len
  exact stretch_main ka kc key sa sc salt n w hk hs hkl (by omega) hn
theorem rstretch_any (kv sv : Value) (key salt : List UInt8) (n : Int) (w : World) (hk : Byt w kv key) (hs : Byt w sv salt) (hkl : key.length ≤ 549755813888) (hsl : salt.length ≤ 500000000000) (hn : -9223372036854775808 ≤ n ∧ n ≤ 9223372036854775807) :
    Calls Try.prog 32 #[kv, sv, .int .i64 n] w fun e w' => e = .returned (.agg ((strX key salt (strN n)).map B).toArray) ∧ Below w.heap.size w w' := by
  obtain ⟨ka, kc, rfl, hkc, hkm⟩ := hk.len
  obtain ⟨sa, sc, rfl, hsc, hsm⟩ := hs.len
  exact rstretch_main ka kc key sa sc salt n w hk hs hkl hsl hn
end Go.Proofs.Ytbbpcgodjncflaa
