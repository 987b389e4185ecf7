/-
  A part of the proofs of this seat: laws of the walk, or contracts of the functions that the statements reach. No conditions but those that each theorem names.
-/
import Derived.Test.YtbbpcgodjncflaaL3
namespace Go.Sp
open Go.RowKit
def rotr (x : UInt32) (n : Nat) : UInt32 := shr x n ||| shl x (32 - n)
def unq (a b c d : UInt32) : UInt32 × UInt32 × UInt32 × UInt32 :=
  let b1 := rotr b 7 ^^^ c
  let c1 := c - d
  let d1 := rotr d 8 ^^^ a
  let a1 := a - b1
  let b2 := rotr b1 12 ^^^ c1
  let c2 := c1 - d1
  let d2 := rotr d1 16 ^^^ a1
  let a2 := a1 - b2
  (a2, b2, c2, d2)
end Go.Sp
namespace Go.Proofs.Ytbbpcgodjncflaa
open Go.RowKit Go.Sp
set_option maxHeartbeats 400000 in
theorem right_any (x : UInt32) (n : Int) (hn : n = 16 ∨ n = 12 ∨ n = 8 ∨ n = 7) (w : World) :
    Calls Try.prog 48 #[W x, .int .i64 n] w fun e w' => e = .returned (W (rotr x n.toNat)) ∧ w' = w := by
  rcases hn with rfl | rfl | rfl | rfl
  all_goals
    go_enter Try.func48, Try.ntmps48
    go_wp2
    go_ret
    exact ⟨rfl, rfl⟩
theorem pf48 : plainFn Try.prog 48 = true := by kernel_rfl
set_option maxRecDepth 100000 in
set_option maxHeartbeats 2000000 in
theorem undo_1 (s : S8) (w : World) :
    Calls Try.prog 37 #[.agg s.vals, .int .i64 4, .int .i64 1, .int .i64 6, .int .i64 3] w fun e w' => e = .returned (.agg #[W s.a, W (unq s.e s.b s.g s.d).2.1, W s.c, W (unq s.e s.b s.g s.d).2.2.2, W (unq s.e s.b s.g s.d).1, W s.f, W (unq s.e s.b s.g s.d).2.2.1, W s.h]) ∧ Below w.heap.size w w' := by
  show Calls Try.prog 37 #[.agg #[W s.a, W s.b, W s.c, W s.d, W s.e, W s.f, W s.g, W s.h], _, _, _, _] w _
  go_enter Try.func37, Try.ntmps37
  go_wp2
  have hBN0 : Blk ((w.alloc (.cells #[W s.a, W s.b, W s.c, W s.d, W s.e, W s.f, W s.g, W s.h] 25)).alloc (.cells S8.zero.vals 25)) w.heap.size #[W s.a, W s.b, W s.c, W s.d, W s.e, W s.f, W s.g, W s.h] 25 := (Blk.new w _ 25).alloc _
  have hRN0 : Blk ((w.alloc (.cells #[W s.a, W s.b, W s.c, W s.d, W s.e, W s.f, W s.g, W s.h] 25)).alloc (.cells S8.zero.vals 25)) (w.heap.size + 1) S8.zero.vals 25 := Blk.newAt (by simp) _ 25
  have hbN0 : Below w.heap.size w ((w.alloc (.cells #[W s.a, W s.b, W s.c, W s.d, W s.e, W s.f, W s.g, W s.h] 25)).alloc (.cells S8.zero.vals 25)) := ((Below.refl _ _).alloc (Nat.le_refl _) _).alloc (by simp) _
  have hv : S8.zero.vals = #[.int .u32 0, .int .u32 0, .int .u32 0, .int .u32 0, .int .u32 0, .int .u32 0, .int .u32 0, .int .u32 0] := rfl
  rw [hv] at hBN0 hRN0 hbN0
  clear hv
  generalize ((w.alloc (.cells #[W s.a, W s.b, W s.c, W s.d, W s.e, W s.f, W s.g, W s.h] 25)).alloc (.cells _ 25)) = wN0 at *
  refine wp_region_T 10 (by kernel_rfl) (by kernel_rfl) (by kernel_rfl) ?_
  simp only [List.take_succ_cons, List.take_zero, List.drop_succ_cons, List.drop_zero]
  have hcL := hBN0.drew.cellL
  refine E_move (rho_base rfl rfl) ?_
  refine E_move (rho_base rfl rfl) ?_
  refine E_indexArr (rho_base rfl rfl) (rho_env rfl) ar25 ⟨by decide, by decide, rfl⟩ ?_
  refine E_load (rho_env rfl) on24 ((hcL _).trans rfl) ?_
  refine E_callf pf48 (map2 (rho_env rfl) rho_const) (right_any _ _ (by simp) _) ?_
  refine E_move (rho_base rfl rfl) ?_
  refine E_indexArr (rho_base rfl rfl) (rho_env rfl) ar25 ⟨by decide, by decide, rfl⟩ ?_
  refine E_load (rho_env rfl) on24 ((hcL _).trans rfl) ?_
  refine E_xorW (rho_env rfl) (rho_env rfl) ?_
  refine E_indexArr (rho_base rfl rfl) (rho_env rfl) ar25 ⟨by decide, by decide, rfl⟩ ?_
  refine E_nil ?_
  clear hcL
  have hbc := hBN0.drew.cell
  have hbf := hBN0.drew.frozen
  refine wpList_norm (rfl : setsL _ 0 _ = [_, _, _, _, _, _, _, _, _, _, _, _, _, _, _, _, _, _, _, _, _, _, _, _, _, _, _, _, _, _, _, _, _, _, _, _, _, _, _, _, _, _, _, _, _, _, _, _, _, _, _, _, _, _, _, _, _, _, _, _, _, _, _, _, _, _, _, _, _, _, _, _, _, _, _, _, _, _, _, _, _, _, _, _, _, _, _, _]) ?_
  simp only [Nat.zero_add, Int.reduceToNat]
  go_wp2
  have hBN1 : Blk (wN0.setCell ⟨w.heap.size, 1, none⟩ (W (rotr s.b 7 ^^^ s.g))).drew w.heap.size #[W s.a, W (rotr s.b 7 ^^^ s.g), W s.c, W s.d, W s.e, W s.f, W s.g, W s.h] 25 := (hBN0.set 1 _).drew
  have hRN1 := (hRN0.setOther ⟨w.heap.size, 1, none⟩ (W (rotr s.b 7 ^^^ s.g)) (by simp)).drew
  have hbN1 := (hbN0.setCell (p := ⟨w.heap.size, 1, none⟩) (Nat.le_refl _) (W (rotr s.b 7 ^^^ s.g))).drew
  clear hbc hbf hBN0 hRN0 hbN0
  obtain ⟨x1, hx1⟩ : ∃ x, x = rotr s.b 7 ^^^ s.g := ⟨_, rfl⟩
  rw [← hx1] at hBN1 hRN1 hbN1 ⊢
  have HX1 := Lib.hid hx1
  clear hx1
  generalize (wN0.setCell _ _).drew = wN1 at *
  refine wp_region_T 9 (by kernel_rfl) (by kernel_rfl) (by kernel_rfl) ?_
  simp only [List.take_succ_cons, List.take_zero, List.drop_succ_cons, List.drop_zero]
  have hcL := hBN1.drew.cellL
  refine E_move (rho_base rfl rfl) ?_
  refine E_move (rho_base rfl rfl) ?_
  refine E_indexArr (rho_base rfl rfl) (rho_env rfl) ar25 ⟨by decide, by decide, rfl⟩ ?_
  refine E_load (rho_env rfl) on24 ((hcL _).trans rfl) ?_
  refine E_move (rho_base rfl rfl) ?_
  refine E_indexArr (rho_base rfl rfl) (rho_env rfl) ar25 ⟨by decide, by decide, rfl⟩ ?_
  refine E_load (rho_env rfl) on24 ((hcL _).trans rfl) ?_
  refine E_subW (rho_env rfl) (rho_env rfl) ?_
  refine E_indexArr (rho_base rfl rfl) (rho_env rfl) ar25 ⟨by decide, by decide, rfl⟩ ?_
  refine E_nil ?_
  clear hcL
  have hbc := hBN1.drew.cell
  have hbf := hBN1.drew.frozen
  refine wpList_norm (rfl : setsL _ 0 _ = [_, _, _, _, _, _, _, _, _, _, _, _, _, _, _, _, _, _, _, _, _, _, _, _, _, _, _, _, _, _, _, _, _, _, _, _, _, _, _, _, _, _, _, _, _, _, _, _, _, _, _, _, _, _, _, _, _, _, _, _, _, _, _, _, _, _, _, _, _, _, _, _, _, _, _, _, _, _, _, _, _, _, _, _, _, _, _, _]) ?_
  simp only [Nat.zero_add, Int.reduceToNat]
  go_wp2
  have hBN2 : Blk (wN1.setCell ⟨w.heap.size, 6, none⟩ (W (s.g - s.d))).drew w.heap.size #[W s.a, W x1, W s.c, W s.d, W s.e, W s.f, W (s.g - s.d), W s.h] 25 := (hBN1.set 6 _).drew
  have hRN2 := (hRN1.setOther ⟨w.heap.size, 6, none⟩ (W (s.g - s.d)) (by simp)).drew
  have hbN2 := (hbN1.setCell (p := ⟨w.heap.size, 6, none⟩) (Nat.le_refl _) (W (s.g - s.d))).drew
  clear hbc hbf hBN1 hRN1 hbN1
  obtain ⟨x2, hx2⟩ : ∃ x, x = s.g - s.d := ⟨_, rfl⟩
  rw [← hx2] at hBN2 hRN2 hbN2 ⊢
  have HX2 := Lib.hid hx2
  clear hx2
  generalize (wN1.setCell _ _).drew = wN2 at *
  refine wp_region_T 10 (by kernel_rfl) (by kernel_rfl) (by kernel_rfl) ?_
  simp only [List.take_succ_cons, List.take_zero, List.drop_succ_cons, List.drop_zero]
  have hcL := hBN2.drew.cellL
  refine E_move (rho_base rfl rfl) ?_
  refine E_move (rho_base rfl rfl) ?_
  refine E_indexArr (rho_base rfl rfl) (rho_env rfl) ar25 ⟨by decide, by decide, rfl⟩ ?_
  refine E_load (rho_env rfl) on24 ((hcL _).trans rfl) ?_
  refine E_callf pf48 (map2 (rho_env rfl) rho_const) (right_any _ _ (by simp) _) ?_
  refine E_move (rho_base rfl rfl) ?_
  refine E_indexArr (rho_base rfl rfl) (rho_env rfl) ar25 ⟨by decide, by decide, rfl⟩ ?_
  refine E_load (rho_env rfl) on24 ((hcL _).trans rfl) ?_
  refine E_xorW (rho_env rfl) (rho_env rfl) ?_
  refine E_indexArr (rho_base rfl rfl) (rho_env rfl) ar25 ⟨by decide, by decide, rfl⟩ ?_
  refine E_nil ?_
  clear hcL
  have hbc := hBN2.drew.cell
  have hbf := hBN2.drew.frozen
  refine wpList_norm (rfl : setsL _ 0 _ = [_, _, _, _, _, _, _, _, _, _, _, _, _, _, _, _, _, _, _, _, _, _, _, _, _, _, _, _, _, _, _, _, _, _, _, _, _, _, _, _, _, _, _, _, _, _, _, _, _, _, _, _, _, _, _, _, _, _, _, _, _, _, _, _, _, _, _, _, _, _, _, _, _, _, _, _, _, _, _, _, _, _, _, _, _, _, _, _]) ?_
  simp only [Nat.zero_add, Int.reduceToNat]
  go_wp2
  have hBN3 : Blk (wN2.setCell ⟨w.heap.size, 3, none⟩ (W (rotr s.d 8 ^^^ s.e))).drew w.heap.size #[W s.a, W x1, W s.c, W (rotr s.d 8 ^^^ s.e), W s.e, W s.f, W x2, W s.h] 25 := (hBN2.set 3 _).drew
  have hRN3 := (hRN2.setOther ⟨w.heap.size, 3, none⟩ (W (rotr s.d 8 ^^^ s.e)) (by simp)).drew
  have hbN3 := (hbN2.setCell (p := ⟨w.heap.size, 3, none⟩) (Nat.le_refl _) (W (rotr s.d 8 ^^^ s.e))).drew
  clear hbc hbf hBN2 hRN2 hbN2
  obtain ⟨x3, hx3⟩ : ∃ x, x = rotr s.d 8 ^^^ s.e := ⟨_, rfl⟩
  rw [← hx3] at hBN3 hRN3 hbN3 ⊢
  have HX3 := Lib.hid hx3
  clear hx3
  generalize (wN2.setCell _ _).drew = wN3 at *
  refine wp_region_T 9 (by kernel_rfl) (by kernel_rfl) (by kernel_rfl) ?_
  simp only [List.take_succ_cons, List.take_zero, List.drop_succ_cons, List.drop_zero]
  have hcL := hBN3.drew.cellL
  refine E_move (rho_base rfl rfl) ?_
  refine E_move (rho_base rfl rfl) ?_
  refine E_indexArr (rho_base rfl rfl) (rho_env rfl) ar25 ⟨by decide, by decide, rfl⟩ ?_
  refine E_load (rho_env rfl) on24 ((hcL _).trans rfl) ?_
  refine E_move (rho_base rfl rfl) ?_
  refine E_indexArr (rho_base rfl rfl) (rho_env rfl) ar25 ⟨by decide, by decide, rfl⟩ ?_
  refine E_load (rho_env rfl) on24 ((hcL _).trans rfl) ?_
  refine E_subW (rho_env rfl) (rho_env rfl) ?_
  refine E_indexArr (rho_base rfl rfl) (rho_env rfl) ar25 ⟨by decide, by decide, rfl⟩ ?_
  refine E_nil ?_
  clear hcL
  have hbc := hBN3.drew.cell
  have hbf := hBN3.drew.frozen
  refine wpList_norm (rfl : setsL _ 0 _ = [_, _, _, _, _, _, _, _, _, _, _, _, _, _, _, _, _, _, _, _, _, _, _, _, _, _, _, _, _, _, _, _, _, _, _, _, _, _, _, _, _, _, _, _, _, _, _, _, _, _, _, _, _, _, _, _, _, _, _, _, _, _, _, _, _, _, _, _, _, _, _, _, _, _, _, _, _, _, _, _, _, _, _, _, _, _, _, _]) ?_
  simp only [Nat.zero_add, Int.reduceToNat]
  go_wp2
  have hBN4 : Blk (wN3.setCell ⟨w.heap.size, 4, none⟩ (W (s.e - x1))).drew w.heap.size #[W s.a, W x1, W s.c, W x3, W (s.e - x1), W s.f, W x2, W s.h] 25 := (hBN3.set 4 _).drew
  have hRN4 := (hRN3.setOther ⟨w.heap.size, 4, none⟩ (W (s.e - x1)) (by simp)).drew
  have hbN4 := (hbN3.setCell (p := ⟨w.heap.size, 4, none⟩) (Nat.le_refl _) (W (s.e - x1))).drew
  clear hbc hbf hBN3 hRN3 hbN3
  obtain ⟨x4, hx4⟩ : ∃ x, x = s.e - x1 := ⟨_, rfl⟩
  rw [← hx4] at hBN4 hRN4 hbN4 ⊢
  have HX4 := Lib.hid hx4
  clear hx4
  generalize (wN3.setCell _ _).drew = wN4 at *
  refine wp_region_T 10 (by kernel_rfl) (by kernel_rfl) (by kernel_rfl) ?_
  simp only [List.take_succ_cons, List.take_zero, List.drop_succ_cons, List.drop_zero]
  have hcL := hBN4.drew.cellL
  refine E_move (rho_base rfl rfl) ?_
  refine E_move (rho_base rfl rfl) ?_
  refine E_indexArr (rho_base rfl rfl) (rho_env rfl) ar25 ⟨by decide, by decide, rfl⟩ ?_
  refine E_load (rho_env rfl) on24 ((hcL _).trans rfl) ?_
  refine E_callf pf48 (map2 (rho_env rfl) rho_const) (right_any _ _ (by simp) _) ?_
  refine E_move (rho_base rfl rfl) ?_
  refine E_indexArr (rho_base rfl rfl) (rho_env rfl) ar25 ⟨by decide, by decide, rfl⟩ ?_
  refine E_load (rho_env rfl) on24 ((hcL _).trans rfl) ?_
  refine E_xorW (rho_env rfl) (rho_env rfl) ?_
  refine E_indexArr (rho_base rfl rfl) (rho_env rfl) ar25 ⟨by decide, by decide, rfl⟩ ?_
  refine E_nil ?_
  clear hcL
  have hbc := hBN4.drew.cell
  have hbf := hBN4.drew.frozen
  refine wpList_norm (rfl : setsL _ 0 _ = [_, _, _, _, _, _, _, _, _, _, _, _, _, _, _, _, _, _, _, _, _, _, _, _, _, _, _, _, _, _, _, _, _, _, _, _, _, _, _, _, _, _, _, _, _, _, _, _, _, _, _, _, _, _, _, _, _, _, _, _, _, _, _, _, _, _, _, _, _, _, _, _, _, _, _, _, _, _, _, _, _, _, _, _, _, _, _, _]) ?_
  simp only [Nat.zero_add, Int.reduceToNat]
  go_wp2
  have hBN5 : Blk (wN4.setCell ⟨w.heap.size, 1, none⟩ (W (rotr x1 12 ^^^ x2))).drew w.heap.size #[W s.a, W (rotr x1 12 ^^^ x2), W s.c, W x3, W x4, W s.f, W x2, W s.h] 25 := (hBN4.set 1 _).drew
  have hRN5 := (hRN4.setOther ⟨w.heap.size, 1, none⟩ (W (rotr x1 12 ^^^ x2)) (by simp)).drew
  have hbN5 := (hbN4.setCell (p := ⟨w.heap.size, 1, none⟩) (Nat.le_refl _) (W (rotr x1 12 ^^^ x2))).drew
  clear hbc hbf hBN4 hRN4 hbN4
  obtain ⟨x5, hx5⟩ : ∃ x, x = rotr x1 12 ^^^ x2 := ⟨_, rfl⟩
  rw [← hx5] at hBN5 hRN5 hbN5 ⊢
  have HX5 := Lib.hid hx5
  clear hx5
  generalize (wN4.setCell _ _).drew = wN5 at *
  refine wp_region_T 9 (by kernel_rfl) (by kernel_rfl) (by kernel_rfl) ?_
  simp only [List.take_succ_cons, List.take_zero, List.drop_succ_cons, List.drop_zero]
  have hcL := hBN5.drew.cellL
  refine E_move (rho_base rfl rfl) ?_
  refine E_move (rho_base rfl rfl) ?_
  refine E_indexArr (rho_base rfl rfl) (rho_env rfl) ar25 ⟨by decide, by decide, rfl⟩ ?_
  refine E_load (rho_env rfl) on24 ((hcL _).trans rfl) ?_
  refine E_move (rho_base rfl rfl) ?_
  refine E_indexArr (rho_base rfl rfl) (rho_env rfl) ar25 ⟨by decide, by decide, rfl⟩ ?_
  refine E_load (rho_env rfl) on24 ((hcL _).trans rfl) ?_
  refine E_subW (rho_env rfl) (rho_env rfl) ?_
  refine E_indexArr (rho_base rfl rfl) (rho_env rfl) ar25 ⟨by decide, by decide, rfl⟩ ?_
  refine E_nil ?_
  clear hcL
  have hbc := hBN5.drew.cell
  have hbf := hBN5.drew.frozen
  refine wpList_norm (rfl : setsL _ 0 _ = [_, _, _, _, _, _, _, _, _, _, _, _, _, _, _, _, _, _, _, _, _, _, _, _, _, _, _, _, _, _, _, _, _, _, _, _, _, _, _, _, _, _, _, _, _, _, _, _, _, _, _, _, _, _, _, _, _, _, _, _, _, _, _, _, _, _, _, _, _, _, _, _, _, _, _, _, _, _, _, _, _, _, _, _, _, _, _, _]) ?_
  simp only [Nat.zero_add, Int.reduceToNat]
  go_wp2
  have hBN6 : Blk (wN5.setCell ⟨w.heap.size, 6, none⟩ (W (x2 - x3))).drew w.heap.size #[W s.a, W x5, W s.c, W x3, W x4, W s.f, W (x2 - x3), W s.h] 25 := (hBN5.set 6 _).drew
  have hRN6 := (hRN5.setOther ⟨w.heap.size, 6, none⟩ (W (x2 - x3)) (by simp)).drew
  have hbN6 := (hbN5.setCell (p := ⟨w.heap.size, 6, none⟩) (Nat.le_refl _) (W (x2 - x3))).drew
  clear hbc hbf hBN5 hRN5 hbN5
  obtain ⟨x6, hx6⟩ : ∃ x, x = x2 - x3 := ⟨_, rfl⟩
  rw [← hx6] at hBN6 hRN6 hbN6 ⊢
  have HX6 := Lib.hid hx6
  clear hx6
  generalize (wN5.setCell _ _).drew = wN6 at *
  refine wp_region_T 10 (by kernel_rfl) (by kernel_rfl) (by kernel_rfl) ?_
  simp only [List.take_succ_cons, List.take_zero, List.drop_succ_cons, List.drop_zero]
  have hcL := hBN6.drew.cellL
  refine E_move (rho_base rfl rfl) ?_
  refine E_move (rho_base rfl rfl) ?_
  refine E_indexArr (rho_base rfl rfl) (rho_env rfl) ar25 ⟨by decide, by decide, rfl⟩ ?_
  refine E_load (rho_env rfl) on24 ((hcL _).trans rfl) ?_
  refine E_callf pf48 (map2 (rho_env rfl) rho_const) (right_any _ _ (by simp) _) ?_
  refine E_move (rho_base rfl rfl) ?_
  refine E_indexArr (rho_base rfl rfl) (rho_env rfl) ar25 ⟨by decide, by decide, rfl⟩ ?_
  refine E_load (rho_env rfl) on24 ((hcL _).trans rfl) ?_
  refine E_xorW (rho_env rfl) (rho_env rfl) ?_
  refine E_indexArr (rho_base rfl rfl) (rho_env rfl) ar25 ⟨by decide, by decide, rfl⟩ ?_
  refine E_nil ?_
  clear hcL
  have hbc := hBN6.drew.cell
  have hbf := hBN6.drew.frozen
  refine wpList_norm (rfl : setsL _ 0 _ = [_, _, _, _, _, _, _, _, _, _, _, _, _, _, _, _, _, _, _, _, _, _, _, _, _, _, _, _, _, _, _, _, _, _, _, _, _, _, _, _, _, _, _, _, _, _, _, _, _, _, _, _, _, _, _, _, _, _, _, _, _, _, _, _, _, _, _, _, _, _, _, _, _, _, _, _, _, _, _, _, _, _, _, _, _, _, _, _]) ?_
  simp only [Nat.zero_add, Int.reduceToNat]
  go_wp2
  have hBN7 : Blk (wN6.setCell ⟨w.heap.size, 3, none⟩ (W (rotr x3 16 ^^^ x4))).drew w.heap.size #[W s.a, W x5, W s.c, W (rotr x3 16 ^^^ x4), W x4, W s.f, W x6, W s.h] 25 := (hBN6.set 3 _).drew
  have hRN7 := (hRN6.setOther ⟨w.heap.size, 3, none⟩ (W (rotr x3 16 ^^^ x4)) (by simp)).drew
  have hbN7 := (hbN6.setCell (p := ⟨w.heap.size, 3, none⟩) (Nat.le_refl _) (W (rotr x3 16 ^^^ x4))).drew
  clear hbc hbf hBN6 hRN6 hbN6
  obtain ⟨x7, hx7⟩ : ∃ x, x = rotr x3 16 ^^^ x4 := ⟨_, rfl⟩
  rw [← hx7] at hBN7 hRN7 hbN7 ⊢
  have HX7 := Lib.hid hx7
  clear hx7
  generalize (wN6.setCell _ _).drew = wN7 at *
  refine wp_region_T 9 (by kernel_rfl) (by kernel_rfl) (by kernel_rfl) ?_
  simp only [List.take_succ_cons, List.take_zero, List.drop_succ_cons, List.drop_zero]
  have hcL := hBN7.drew.cellL
  refine E_move (rho_base rfl rfl) ?_
  refine E_move (rho_base rfl rfl) ?_
  refine E_indexArr (rho_base rfl rfl) (rho_env rfl) ar25 ⟨by decide, by decide, rfl⟩ ?_
  refine E_load (rho_env rfl) on24 ((hcL _).trans rfl) ?_
  refine E_move (rho_base rfl rfl) ?_
  refine E_indexArr (rho_base rfl rfl) (rho_env rfl) ar25 ⟨by decide, by decide, rfl⟩ ?_
  refine E_load (rho_env rfl) on24 ((hcL _).trans rfl) ?_
  refine E_subW (rho_env rfl) (rho_env rfl) ?_
  refine E_indexArr (rho_base rfl rfl) (rho_env rfl) ar25 ⟨by decide, by decide, rfl⟩ ?_
  refine E_nil ?_
  clear hcL
  have hbc := hBN7.drew.cell
  have hbf := hBN7.drew.frozen
  refine wpList_norm (rfl : setsL _ 0 _ = [_, _, _, _, _, _, _, _, _, _, _, _, _, _, _, _, _, _, _, _, _, _, _, _, _, _, _, _, _, _, _, _, _, _, _, _, _, _, _, _, _, _, _, _, _, _, _, _, _, _, _, _, _, _, _, _, _, _, _, _, _, _, _, _, _, _, _, _, _, _, _, _, _, _, _, _, _, _, _, _, _, _, _, _, _, _, _, _]) ?_
  simp only [Nat.zero_add, Int.reduceToNat]
  go_wp2_with (refine (show wpList _ _ _ (⟨some 87, .load 25 (.tmp 5), _, _, _, _⟩ :: _) _ _ from stop_here ?_))
  have hBN8 : Blk (wN7.setCell ⟨w.heap.size, 4, none⟩ (W (x4 - x5))).drew w.heap.size #[W s.a, W x5, W s.c, W x7, W (x4 - x5), W s.f, W x6, W s.h] 25 := (hBN7.set 4 _).drew
  have hRN8 := (hRN7.setOther ⟨w.heap.size, 4, none⟩ (W (x4 - x5)) (by simp)).drew
  have hbN8 := (hbN7.setCell (p := ⟨w.heap.size, 4, none⟩) (Nat.le_refl _) (W (x4 - x5))).drew
  clear hbc hbf hBN7 hRN7 hbN7
  obtain ⟨x8, hx8⟩ : ∃ x, x = x4 - x5 := ⟨_, rfl⟩
  rw [← hx8] at hBN8 hRN8 hbN8 ⊢
  have HX8 := Lib.hid hx8
  clear hx8
  generalize (wN7.setCell _ _).drew = wN8 at *
  refine Stop.go (wpList_load_row rfl 25 (.tmp 5) rfl w.heap.size rfl 25 _ (0, 0) _ hBN8 Try.underlying25 rfl (by kernel_rfl) ?_)
  go_wp2_with (refine (show wpList _ _ _ (⟨none, .store 25 (.tmp 10) (.tmp 87), _, _, _, _⟩ :: _) _ _ from stop_here ?_))
  refine Stop.go (wpList_store_blk rfl rfl rfl rfl hRN8 rfl (by kernel_rfl) (by simp [Value.oneCell']) ?_)
  intro w3 hR3 hO3
  have hb3 := hbN8.trans (hO3.below (by omega) hbN8.size)
  clear hO3 hRN8 hBN8 hbN8
  go_wp2
  refine bodyPost_ret (results_cell_row rfl _ _ (w.heap.size + 1) 25 _ (0, 0) _ rfl hR3 Try.underlying25 rfl (by kernel_rfl)) rfl ⟨?_, hb3⟩
  have e1 := HX1.out; have e2 := HX2.out; have e3 := HX3.out; have e4 := HX4.out; have e5 := HX5.out; have e6 := HX6.out; have e7 := HX7.out; have e8 := HX8.out
  clear HX1 HX2 HX3 HX4 HX5 HX6 HX7 HX8
  subst e1 e2 e3 e4 e5 e6 e7 e8
  rfl
set_option maxRecDepth 100000 in
set_option maxHeartbeats 2000000 in
theorem undo_2 (s : S8) (w : World) :
    Calls Try.prog 37 #[.agg s.vals, .int .i64 0, .int .i64 5, .int .i64 2, .int .i64 7] w fun e w' => e = .returned (.agg #[W (unq s.a s.f s.c s.h).1, W s.b, W (unq s.a s.f s.c s.h).2.2.1, W s.d, W s.e, W (unq s.a s.f s.c s.h).2.1, W s.g, W (unq s.a s.f s.c s.h).2.2.2]) ∧ Below w.heap.size w w' := by
  show Calls Try.prog 37 #[.agg #[W s.a, W s.b, W s.c, W s.d, W s.e, W s.f, W s.g, W s.h], _, _, _, _] w _
  go_enter Try.func37, Try.ntmps37
  go_wp2
  have hBN0 : Blk ((w.alloc (.cells #[W s.a, W s.b, W s.c, W s.d, W s.e, W s.f, W s.g, W s.h] 25)).alloc (.cells S8.zero.vals 25)) w.heap.size #[W s.a, W s.b, W s.c, W s.d, W s.e, W s.f, W s.g, W s.h] 25 := (Blk.new w _ 25).alloc _
  have hRN0 : Blk ((w.alloc (.cells #[W s.a, W s.b, W s.c, W s.d, W s.e, W s.f, W s.g, W s.h] 25)).alloc (.cells S8.zero.vals 25)) (w.heap.size + 1) S8.zero.vals 25 := Blk.newAt (by simp) _ 25
  have hbN0 : Below w.heap.size w ((w.alloc (.cells #[W s.a, W s.b, W s.c, W s.d, W s.e, W s.f, W s.g, W s.h] 25)).alloc (.cells S8.zero.vals 25)) := ((Below.refl _ _).alloc (Nat.le_refl _) _).alloc (by simp) _
  have hv : S8.zero.vals = #[.int .u32 0, .int .u32 0, .int .u32 0, .int .u32 0, .int .u32 0, .int .u32 0, .int .u32 0, .int .u32 0] := rfl
  rw [hv] at hBN0 hRN0 hbN0
  clear hv
  generalize ((w.alloc (.cells #[W s.a, W s.b, W s.c, W s.d, W s.e, W s.f, W s.g, W s.h] 25)).alloc (.cells _ 25)) = wN0 at *
  refine wp_region_T 10 (by kernel_rfl) (by kernel_rfl) (by kernel_rfl) ?_
  simp only [List.take_succ_cons, List.take_zero, List.drop_succ_cons, List.drop_zero]
  have hcL := hBN0.drew.cellL
  refine E_move (rho_base rfl rfl) ?_
  refine E_move (rho_base rfl rfl) ?_
  refine E_indexArr (rho_base rfl rfl) (rho_env rfl) ar25 ⟨by decide, by decide, rfl⟩ ?_
  refine E_load (rho_env rfl) on24 ((hcL _).trans rfl) ?_
  refine E_callf pf48 (map2 (rho_env rfl) rho_const) (right_any _ _ (by simp) _) ?_
  refine E_move (rho_base rfl rfl) ?_
  refine E_indexArr (rho_base rfl rfl) (rho_env rfl) ar25 ⟨by decide, by decide, rfl⟩ ?_
  refine E_load (rho_env rfl) on24 ((hcL _).trans rfl) ?_
  refine E_xorW (rho_env rfl) (rho_env rfl) ?_
  refine E_indexArr (rho_base rfl rfl) (rho_env rfl) ar25 ⟨by decide, by decide, rfl⟩ ?_
  refine E_nil ?_
  clear hcL
  have hbc := hBN0.drew.cell
  have hbf := hBN0.drew.frozen
  refine wpList_norm (rfl : setsL _ 0 _ = [_, _, _, _, _, _, _, _, _, _, _, _, _, _, _, _, _, _, _, _, _, _, _, _, _, _, _, _, _, _, _, _, _, _, _, _, _, _, _, _, _, _, _, _, _, _, _, _, _, _, _, _, _, _, _, _, _, _, _, _, _, _, _, _, _, _, _, _, _, _, _, _, _, _, _, _, _, _, _, _, _, _, _, _, _, _, _, _]) ?_
  simp only [Nat.zero_add, Int.reduceToNat]
  go_wp2
  have hBN1 : Blk (wN0.setCell ⟨w.heap.size, 5, none⟩ (W (rotr s.f 7 ^^^ s.c))).drew w.heap.size #[W s.a, W s.b, W s.c, W s.d, W s.e, W (rotr s.f 7 ^^^ s.c), W s.g, W s.h] 25 := (hBN0.set 5 _).drew
  have hRN1 := (hRN0.setOther ⟨w.heap.size, 5, none⟩ (W (rotr s.f 7 ^^^ s.c)) (by simp)).drew
  have hbN1 := (hbN0.setCell (p := ⟨w.heap.size, 5, none⟩) (Nat.le_refl _) (W (rotr s.f 7 ^^^ s.c))).drew
  clear hbc hbf hBN0 hRN0 hbN0
  obtain ⟨x1, hx1⟩ : ∃ x, x = rotr s.f 7 ^^^ s.c := ⟨_, rfl⟩
  rw [← hx1] at hBN1 hRN1 hbN1 ⊢
  have HX1 := Lib.hid hx1
  clear hx1
  generalize (wN0.setCell _ _).drew = wN1 at *
  refine wp_region_T 9 (by kernel_rfl) (by kernel_rfl) (by kernel_rfl) ?_
  simp only [List.take_succ_cons, List.take_zero, List.drop_succ_cons, List.drop_zero]
  have hcL := hBN1.drew.cellL
  refine E_move (rho_base rfl rfl) ?_
  refine E_move (rho_base rfl rfl) ?_
  refine E_indexArr (rho_base rfl rfl) (rho_env rfl) ar25 ⟨by decide, by decide, rfl⟩ ?_
  refine E_load (rho_env rfl) on24 ((hcL _).trans rfl) ?_
  refine E_move (rho_base rfl rfl) ?_
  refine E_indexArr (rho_base rfl rfl) (rho_env rfl) ar25 ⟨by decide, by decide, rfl⟩ ?_
  refine E_load (rho_env rfl) on24 ((hcL _).trans rfl) ?_
  refine E_subW (rho_env rfl) (rho_env rfl) ?_
  refine E_indexArr (rho_base rfl rfl) (rho_env rfl) ar25 ⟨by decide, by decide, rfl⟩ ?_
  refine E_nil ?_
  clear hcL
  have hbc := hBN1.drew.cell
  have hbf := hBN1.drew.frozen
  refine wpList_norm (rfl : setsL _ 0 _ = [_, _, _, _, _, _, _, _, _, _, _, _, _, _, _, _, _, _, _, _, _, _, _, _, _, _, _, _, _, _, _, _, _, _, _, _, _, _, _, _, _, _, _, _, _, _, _, _, _, _, _, _, _, _, _, _, _, _, _, _, _, _, _, _, _, _, _, _, _, _, _, _, _, _, _, _, _, _, _, _, _, _, _, _, _, _, _, _]) ?_
  simp only [Nat.zero_add, Int.reduceToNat]
  go_wp2
  have hBN2 : Blk (wN1.setCell ⟨w.heap.size, 2, none⟩ (W (s.c - s.h))).drew w.heap.size #[W s.a, W s.b, W (s.c - s.h), W s.d, W s.e, W x1, W s.g, W s.h] 25 := (hBN1.set 2 _).drew
  have hRN2 := (hRN1.setOther ⟨w.heap.size, 2, none⟩ (W (s.c - s.h)) (by simp)).drew
  have hbN2 := (hbN1.setCell (p := ⟨w.heap.size, 2, none⟩) (Nat.le_refl _) (W (s.c - s.h))).drew
  clear hbc hbf hBN1 hRN1 hbN1
  obtain ⟨x2, hx2⟩ : ∃ x, x = s.c - s.h := ⟨_, rfl⟩
  rw [← hx2] at hBN2 hRN2 hbN2 ⊢
  have HX2 := Lib.hid hx2
  clear hx2
  generalize (wN1.setCell _ _).drew = wN2 at *
  refine wp_region_T 10 (by kernel_rfl) (by kernel_rfl) (by kernel_rfl) ?_
  simp only [List.take_succ_cons, List.take_zero, List.drop_succ_cons, List.drop_zero]
  have hcL := hBN2.drew.cellL
  refine E_move (rho_base rfl rfl) ?_
  refine E_move (rho_base rfl rfl) ?_
  refine E_indexArr (rho_base rfl rfl) (rho_env rfl) ar25 ⟨by decide, by decide, rfl⟩ ?_
  refine E_load (rho_env rfl) on24 ((hcL _).trans rfl) ?_
  refine E_callf pf48 (map2 (rho_env rfl) rho_const) (right_any _ _ (by simp) _) ?_
  refine E_move (rho_base rfl rfl) ?_
  refine E_indexArr (rho_base rfl rfl) (rho_env rfl) ar25 ⟨by decide, by decide, rfl⟩ ?_
  refine E_load (rho_env rfl) on24 ((hcL _).trans rfl) ?_
  refine E_xorW (rho_env rfl) (rho_env rfl) ?_
  refine E_indexArr (rho_base rfl rfl) (rho_env rfl) ar25 ⟨by decide, by decide, rfl⟩ ?_
  refine E_nil ?_
  clear hcL
  have hbc := hBN2.drew.cell
  have hbf := hBN2.drew.frozen
  refine wpList_norm (rfl : setsL _ 0 _ = [_, _, _, _, _, _, _, _, _, _, _, _, _, _, _, _, _, _, _, _, _, _, _, _, _, _, _, _, _, _, _, _, _, _, _, _, _, _, _, _, _, _, _, _, _, _, _, _, _, _, _, _, _, _, _, _, _, _, _, _, _, _, _, _, _, _, _, _, _, _, _, _, _, _, _, _, _, _, _, _, _, _, _, _, _, _, _, _]) ?_
  simp only [Nat.zero_add, Int.reduceToNat]
  go_wp2
  have hBN3 : Blk (wN2.setCell ⟨w.heap.size, 7, none⟩ (W (rotr s.h 8 ^^^ s.a))).drew w.heap.size #[W s.a, W s.b, W x2, W s.d, W s.e, W x1, W s.g, W (rotr s.h 8 ^^^ s.a)] 25 := (hBN2.set 7 _).drew
  have hRN3 := (hRN2.setOther ⟨w.heap.size, 7, none⟩ (W (rotr s.h 8 ^^^ s.a)) (by simp)).drew
  have hbN3 := (hbN2.setCell (p := ⟨w.heap.size, 7, none⟩) (Nat.le_refl _) (W (rotr s.h 8 ^^^ s.a))).drew
  clear hbc hbf hBN2 hRN2 hbN2
  obtain ⟨x3, hx3⟩ : ∃ x, x = rotr s.h 8 ^^^ s.a := ⟨_, rfl⟩
  rw [← hx3] at hBN3 hRN3 hbN3 ⊢
  have HX3 := Lib.hid hx3
  clear hx3
  generalize (wN2.setCell _ _).drew = wN3 at *
  refine wp_region_T 9 (by kernel_rfl) (by kernel_rfl) (by kernel_rfl) ?_
  simp only [List.take_succ_cons, List.take_zero, List.drop_succ_cons, List.drop_zero]
  have hcL := hBN3.drew.cellL
  refine E_move (rho_base rfl rfl) ?_
  refine E_move (rho_base rfl rfl) ?_
  refine E_indexArr (rho_base rfl rfl) (rho_env rfl) ar25 ⟨by decide, by decide, rfl⟩ ?_
  refine E_load (rho_env rfl) on24 ((hcL _).trans rfl) ?_
  refine E_move (rho_base rfl rfl) ?_
  refine E_indexArr (rho_base rfl rfl) (rho_env rfl) ar25 ⟨by decide, by decide, rfl⟩ ?_
  refine E_load (rho_env rfl) on24 ((hcL _).trans rfl) ?_
  refine E_subW (rho_env rfl) (rho_env rfl) ?_
  refine E_indexArr (rho_base rfl rfl) (rho_env rfl) ar25 ⟨by decide, by decide, rfl⟩ ?_
  refine E_nil ?_
  clear hcL
  have hbc := hBN3.drew.cell
  have hbf := hBN3.drew.frozen
  refine wpList_norm (rfl : setsL _ 0 _ = [_, _, _, _, _, _, _, _, _, _, _, _, _, _, _, _, _, _, _, _, _, _, _, _, _, _, _, _, _, _, _, _, _, _, _, _, _, _, _, _, _, _, _, _, _, _, _, _, _, _, _, _, _, _, _, _, _, _, _, _, _, _, _, _, _, _, _, _, _, _, _, _, _, _, _, _, _, _, _, _, _, _, _, _, _, _, _, _]) ?_
  simp only [Nat.zero_add, Int.reduceToNat]
  go_wp2
  have hBN4 : Blk (wN3.setCell ⟨w.heap.size, 0, none⟩ (W (s.a - x1))).drew w.heap.size #[W (s.a - x1), W s.b, W x2, W s.d, W s.e, W x1, W s.g, W x3] 25 := (hBN3.set 0 _).drew
  have hRN4 := (hRN3.setOther ⟨w.heap.size, 0, none⟩ (W (s.a - x1)) (by simp)).drew
  have hbN4 := (hbN3.setCell (p := ⟨w.heap.size, 0, none⟩) (Nat.le_refl _) (W (s.a - x1))).drew
  clear hbc hbf hBN3 hRN3 hbN3
  obtain ⟨x4, hx4⟩ : ∃ x, x = s.a - x1 := ⟨_, rfl⟩
  rw [← hx4] at hBN4 hRN4 hbN4 ⊢
  have HX4 := Lib.hid hx4
  clear hx4
  generalize (wN3.setCell _ _).drew = wN4 at *
  refine wp_region_T 10 (by kernel_rfl) (by kernel_rfl) (by kernel_rfl) ?_
  simp only [List.take_succ_cons, List.take_zero, List.drop_succ_cons, List.drop_zero]
  have hcL := hBN4.drew.cellL
  refine E_move (rho_base rfl rfl) ?_
  refine E_move (rho_base rfl rfl) ?_
  refine E_indexArr (rho_base rfl rfl) (rho_env rfl) ar25 ⟨by decide, by decide, rfl⟩ ?_
  refine E_load (rho_env rfl) on24 ((hcL _).trans rfl) ?_
  refine E_callf pf48 (map2 (rho_env rfl) rho_const) (right_any _ _ (by simp) _) ?_
  refine E_move (rho_base rfl rfl) ?_
  refine E_indexArr (rho_base rfl rfl) (rho_env rfl) ar25 ⟨by decide, by decide, rfl⟩ ?_
  refine E_load (rho_env rfl) on24 ((hcL _).trans rfl) ?_
  refine E_xorW (rho_env rfl) (rho_env rfl) ?_
  refine E_indexArr (rho_base rfl rfl) (rho_env rfl) ar25 ⟨by decide, by decide, rfl⟩ ?_
  refine E_nil ?_
  clear hcL
  have hbc := hBN4.drew.cell
  have hbf := hBN4.drew.frozen
  refine wpList_norm (rfl : setsL _ 0 _ = [_, _, _, _, _, _, _, _, _, _, _, _, _, _, _, _, _, _, _, _, _, _, _, _, _, _, _, _, _, _, _, _, _, _, _, _, _, _, _, _, _, _, _, _, _, _, _, _, _, _, _, _, _, _, _, _, _, _, _, _, _, _, _, _, _, _, _, _, _, _, _, _, _, _, _, _, _, _, _, _, _, _, _, _, _, _, _, _]) ?_
  simp only [Nat.zero_add, Int.reduceToNat]
  go_wp2
  have hBN5 : Blk (wN4.setCell ⟨w.heap.size, 5, none⟩ (W (rotr x1 12 ^^^ x2))).drew w.heap.size #[W x4, W s.b, W x2, W s.d, W s.e, W (rotr x1 12 ^^^ x2), W s.g, W x3] 25 := (hBN4.set 5 _).drew
  have hRN5 := (hRN4.setOther ⟨w.heap.size, 5, none⟩ (W (rotr x1 12 ^^^ x2)) (by simp)).drew
  have hbN5 := (hbN4.setCell (p := ⟨w.heap.size, 5, none⟩) (Nat.le_refl _) (W (rotr x1 12 ^^^ x2))).drew
  clear hbc hbf hBN4 hRN4 hbN4
  obtain ⟨x5, hx5⟩ : ∃ x, x = rotr x1 12 ^^^ x2 := ⟨_, rfl⟩
  rw [← hx5] at hBN5 hRN5 hbN5 ⊢
  have HX5 := Lib.hid hx5
  clear hx5
  generalize (wN4.setCell _ _).drew = wN5 at *
  refine wp_region_T 9 (by kernel_rfl) (by kernel_rfl) (by kernel_rfl) ?_
  simp only [List.take_succ_cons, List.take_zero, List.drop_succ_cons, List.drop_zero]
  have hcL := hBN5.drew.cellL
  refine E_move (rho_base rfl rfl) ?_
  refine E_move (rho_base rfl rfl) ?_
  refine E_indexArr (rho_base rfl rfl) (rho_env rfl) ar25 ⟨by decide, by decide, rfl⟩ ?_
  refine E_load (rho_env rfl) on24 ((hcL _).trans rfl) ?_
  refine E_move (rho_base rfl rfl) ?_
  refine E_indexArr (rho_base rfl rfl) (rho_env rfl) ar25 ⟨by decide, by decide, rfl⟩ ?_
  refine E_load (rho_env rfl) on24 ((hcL _).trans rfl) ?_
  refine E_subW (rho_env rfl) (rho_env rfl) ?_
  refine E_indexArr (rho_base rfl rfl) (rho_env rfl) ar25 ⟨by decide, by decide, rfl⟩ ?_
  refine E_nil ?_
  clear hcL
  have hbc := hBN5.drew.cell
  have hbf := hBN5.drew.frozen
  refine wpList_norm (rfl : setsL _ 0 _ = [_, _, _, _, _, _, _, _, _, _, _, _, _, _, _, _, _, _, _, _, _, _, _, _, _, _, _, _, _, _, _, _, _, _, _, _, _, _, _, _, _, _, _, _, _, _, _, _, _, _, _, _, _, _, _, _, _, _, _, _, _, _, _, _, _, _, _, _, _, _, _, _, _, _, _, _, _, _, _, _, _, _, _, _, _, _, _, _]) ?_
  simp only [Nat.zero_add, Int.reduceToNat]
  go_wp2
  have hBN6 : Blk (wN5.setCell ⟨w.heap.size, 2, none⟩ (W (x2 - x3))).drew w.heap.size #[W x4, W s.b, W (x2 - x3), W s.d, W s.e, W x5, W s.g, W x3] 25 := (hBN5.set 2 _).drew
  have hRN6 := (hRN5.setOther ⟨w.heap.size, 2, none⟩ (W (x2 - x3)) (by simp)).drew
  have hbN6 := (hbN5.setCell (p := ⟨w.heap.size, 2, none⟩) (Nat.le_refl _) (W (x2 - x3))).drew
  clear hbc hbf hBN5 hRN5 hbN5
  obtain ⟨x6, hx6⟩ : ∃ x, x = x2 - x3 := ⟨_, rfl⟩
  rw [← hx6] at hBN6 hRN6 hbN6 ⊢
  have HX6 := Lib.hid hx6
  clear hx6
  generalize (wN5.setCell _ _).drew = wN6 at *
  refine wp_region_T 10 (by kernel_rfl) (by kernel_rfl) (by kernel_rfl) ?_
  simp only [List.take_succ_cons, List.take_zero, List.drop_succ_cons, List.drop_zero]
  have hcL := hBN6.drew.cellL
  refine E_move (rho_base rfl rfl) ?_
  refine E_move (rho_base rfl rfl) ?_
  refine E_indexArr (rho_base rfl rfl) (rho_env rfl) ar25 ⟨by decide, by decide, rfl⟩ ?_
  refine E_load (rho_env rfl) on24 ((hcL _).trans rfl) ?_
  refine E_callf pf48 (map2 (rho_env rfl) rho_const) (right_any _ _ (by simp) _) ?_
  refine E_move (rho_base rfl rfl) ?_
  refine E_indexArr (rho_base rfl rfl) (rho_env rfl) ar25 ⟨by decide, by decide, rfl⟩ ?_
  refine E_load (rho_env rfl) on24 ((hcL _).trans rfl) ?_
  refine E_xorW (rho_env rfl) (rho_env rfl) ?_
  refine E_indexArr (rho_base rfl rfl) (rho_env rfl) ar25 ⟨by decide, by decide, rfl⟩ ?_
  refine E_nil ?_
  clear hcL
  have hbc := hBN6.drew.cell
  have hbf := hBN6.drew.frozen
  refine wpList_norm (rfl : setsL _ 0 _ = [_, _, _, _, _, _, _, _, _, _, _, _, _, _, _, _, _, _, _, _, _, _, _, _, _, _, _, _, _, _, _, _, _, _, _, _, _, _, _, _, _, _, _, _, _, _, _, _, _, _, _, _, _, _, _, _, _, _, _, _, _, _, _, _, _, _, _, _, _, _, _, _, _, _, _, _, _, _, _, _, _, _, _, _, _, _, _, _]) ?_
  simp only [Nat.zero_add, Int.reduceToNat]
  go_wp2
  have hBN7 : Blk (wN6.setCell ⟨w.heap.size, 7, none⟩ (W (rotr x3 16 ^^^ x4))).drew w.heap.size #[W x4, W s.b, W x6, W s.d, W s.e, W x5, W s.g, W (rotr x3 16 ^^^ x4)] 25 := (hBN6.set 7 _).drew
  have hRN7 := (hRN6.setOther ⟨w.heap.size, 7, none⟩ (W (rotr x3 16 ^^^ x4)) (by simp)).drew
  have hbN7 := (hbN6.setCell (p := ⟨w.heap.size, 7, none⟩) (Nat.le_refl _) (W (rotr x3 16 ^^^ x4))).drew
  clear hbc hbf hBN6 hRN6 hbN6
  obtain ⟨x7, hx7⟩ : ∃ x, x = rotr x3 16 ^^^ x4 := ⟨_, rfl⟩
  rw [← hx7] at hBN7 hRN7 hbN7 ⊢
  have HX7 := Lib.hid hx7
  clear hx7
  generalize (wN6.setCell _ _).drew = wN7 at *
  refine wp_region_T 9 (by kernel_rfl) (by kernel_rfl) (by kernel_rfl) ?_
  simp only [List.take_succ_cons, List.take_zero, List.drop_succ_cons, List.drop_zero]
  have hcL := hBN7.drew.cellL
  refine E_move (rho_base rfl rfl) ?_
  refine E_move (rho_base rfl rfl) ?_
  refine E_indexArr (rho_base rfl rfl) (rho_env rfl) ar25 ⟨by decide, by decide, rfl⟩ ?_
  refine E_load (rho_env rfl) on24 ((hcL _).trans rfl) ?_
  refine E_move (rho_base rfl rfl) ?_
  refine E_indexArr (rho_base rfl rfl) (rho_env rfl) ar25 ⟨by decide, by decide, rfl⟩ ?_
  refine E_load (rho_env rfl) on24 ((hcL _).trans rfl) ?_
  refine E_subW (rho_env rfl) (rho_env rfl) ?_
  refine E_indexArr (rho_base rfl rfl) (rho_env rfl) ar25 ⟨by decide, by decide, rfl⟩ ?_
  refine E_nil ?_
  clear hcL
  have hbc := hBN7.drew.cell
  have hbf := hBN7.drew.frozen
  refine wpList_norm (rfl : setsL _ 0 _ = [_, _, _, _, _, _, _, _, _, _, _, _, _, _, _, _, _, _, _, _, _, _, _, _, _, _, _, _, _, _, _, _, _, _, _, _, _, _, _, _, _, _, _, _, _, _, _, _, _, _, _, _, _, _, _, _, _, _, _, _, _, _, _, _, _, _, _, _, _, _, _, _, _, _, _, _, _, _, _, _, _, _, _, _, _, _, _, _]) ?_
  simp only [Nat.zero_add, Int.reduceToNat]
  go_wp2_with (refine (show wpList _ _ _ (⟨some 87, .load 25 (.tmp 5), _, _, _, _⟩ :: _) _ _ from stop_here ?_))
  have hBN8 : Blk (wN7.setCell ⟨w.heap.size, 0, none⟩ (W (x4 - x5))).drew w.heap.size #[W (x4 - x5), W s.b, W x6, W s.d, W s.e, W x5, W s.g, W x7] 25 := (hBN7.set 0 _).drew
  have hRN8 := (hRN7.setOther ⟨w.heap.size, 0, none⟩ (W (x4 - x5)) (by simp)).drew
  have hbN8 := (hbN7.setCell (p := ⟨w.heap.size, 0, none⟩) (Nat.le_refl _) (W (x4 - x5))).drew
  clear hbc hbf hBN7 hRN7 hbN7
  obtain ⟨x8, hx8⟩ : ∃ x, x = x4 - x5 := ⟨_, rfl⟩
  rw [← hx8] at hBN8 hRN8 hbN8 ⊢
  have HX8 := Lib.hid hx8
  clear hx8
  generalize (wN7.setCell _ _).drew = wN8 at *
  refine Stop.go (wpList_load_row rfl 25 (.tmp 5) rfl w.heap.size rfl 25 _ (0, 0) _ hBN8 Try.underlying25 rfl (by kernel_rfl) ?_)
  go_wp2_with (refine (show wpList _ _ _ (⟨none, .store 25 (.tmp 10) (.tmp 87), _, _, _, _⟩ :: _) _ _ from stop_here ?_))
  refine Stop.go (wpList_store_blk rfl rfl rfl rfl hRN8 rfl (by kernel_rfl) (by simp [Value.oneCell']) ?_)
  intro w3 hR3 hO3
  have hb3 := hbN8.trans (hO3.below (by omega) hbN8.size)
  clear hO3 hRN8 hBN8 hbN8
  go_wp2
  refine bodyPost_ret (results_cell_row rfl _ _ (w.heap.size + 1) 25 _ (0, 0) _ rfl hR3 Try.underlying25 rfl (by kernel_rfl)) rfl ⟨?_, hb3⟩
  have e1 := HX1.out; have e2 := HX2.out; have e3 := HX3.out; have e4 := HX4.out; have e5 := HX5.out; have e6 := HX6.out; have e7 := HX7.out; have e8 := HX8.out
  clear HX1 HX2 HX3 HX4 HX5 HX6 HX7 HX8
  subst e1 e2 e3 e4 e5 e6 e7 e8
  rfl
set_option maxRecDepth 100000 in
set_option maxHeartbeats 2000000 in
theorem undo_3 (s : S8) (w : World) :
    Calls Try.prog 37 #[.agg s.vals, .int .i64 4, .int .i64 5, .int .i64 6, .int .i64 7] w fun e w' => e = .returned (.agg #[W s.a, W s.b, W s.c, W s.d, W (unq s.e s.f s.g s.h).1, W (unq s.e s.f s.g s.h).2.1, W (unq s.e s.f s.g s.h).2.2.1, W (unq s.e s.f s.g s.h).2.2.2]) ∧ Below w.heap.size w w' := by
  show Calls Try.prog 37 #[.agg #[W s.a, W s.b, W s.c, W s.d, W s.e, W s.f, W s.g, W s.h], _, _, _, _] w _
  go_enter Try.func37, Try.ntmps37
  go_wp2
  have hBN0 : Blk ((w.alloc (.cells #[W s.a, W s.b, W s.c, W s.d, W s.e, W s.f, W s.g, W s.h] 25)).alloc (.cells S8.zero.vals 25)) w.heap.size #[W s.a, W s.b, W s.c, W s.d, W s.e, W s.f, W s.g, W s.h] 25 := (Blk.new w _ 25).alloc _
  have hRN0 : Blk ((w.alloc (.cells #[W s.a, W s.b, W s.c, W s.d, W s.e, W s.f, W s.g, W s.h] 25)).alloc (.cells S8.zero.vals 25)) (w.heap.size + 1) S8.zero.vals 25 := Blk.newAt (by simp) _ 25
  have hbN0 : Below w.heap.size w ((w.alloc (.cells #[W s.a, W s.b, W s.c, W s.d, W s.e, W s.f, W s.g, W s.h] 25)).alloc (.cells S8.zero.vals 25)) := ((Below.refl _ _).alloc (Nat.le_refl _) _).alloc (by simp) _
  have hv : S8.zero.vals = #[.int .u32 0, .int .u32 0, .int .u32 0, .int .u32 0, .int .u32 0, .int .u32 0, .int .u32 0, .int .u32 0] := rfl
  rw [hv] at hBN0 hRN0 hbN0
  clear hv
  generalize ((w.alloc (.cells #[W s.a, W s.b, W s.c, W s.d, W s.e, W s.f, W s.g, W s.h] 25)).alloc (.cells _ 25)) = wN0 at *
  refine wp_region_T 10 (by kernel_rfl) (by kernel_rfl) (by kernel_rfl) ?_
  simp only [List.take_succ_cons, List.take_zero, List.drop_succ_cons, List.drop_zero]
  have hcL := hBN0.drew.cellL
  refine E_move (rho_base rfl rfl) ?_
  refine E_move (rho_base rfl rfl) ?_
  refine E_indexArr (rho_base rfl rfl) (rho_env rfl) ar25 ⟨by decide, by decide, rfl⟩ ?_
  refine E_load (rho_env rfl) on24 ((hcL _).trans rfl) ?_
  refine E_callf pf48 (map2 (rho_env rfl) rho_const) (right_any _ _ (by simp) _) ?_
  refine E_move (rho_base rfl rfl) ?_
  refine E_indexArr (rho_base rfl rfl) (rho_env rfl) ar25 ⟨by decide, by decide, rfl⟩ ?_
  refine E_load (rho_env rfl) on24 ((hcL _).trans rfl) ?_
  refine E_xorW (rho_env rfl) (rho_env rfl) ?_
  refine E_indexArr (rho_base rfl rfl) (rho_env rfl) ar25 ⟨by decide, by decide, rfl⟩ ?_
  refine E_nil ?_
  clear hcL
  have hbc := hBN0.drew.cell
  have hbf := hBN0.drew.frozen
  refine wpList_norm (rfl : setsL _ 0 _ = [_, _, _, _, _, _, _, _, _, _, _, _, _, _, _, _, _, _, _, _, _, _, _, _, _, _, _, _, _, _, _, _, _, _, _, _, _, _, _, _, _, _, _, _, _, _, _, _, _, _, _, _, _, _, _, _, _, _, _, _, _, _, _, _, _, _, _, _, _, _, _, _, _, _, _, _, _, _, _, _, _, _, _, _, _, _, _, _]) ?_
  simp only [Nat.zero_add, Int.reduceToNat]
  go_wp2
  have hBN1 : Blk (wN0.setCell ⟨w.heap.size, 5, none⟩ (W (rotr s.f 7 ^^^ s.g))).drew w.heap.size #[W s.a, W s.b, W s.c, W s.d, W s.e, W (rotr s.f 7 ^^^ s.g), W s.g, W s.h] 25 := (hBN0.set 5 _).drew
  have hRN1 := (hRN0.setOther ⟨w.heap.size, 5, none⟩ (W (rotr s.f 7 ^^^ s.g)) (by simp)).drew
  have hbN1 := (hbN0.setCell (p := ⟨w.heap.size, 5, none⟩) (Nat.le_refl _) (W (rotr s.f 7 ^^^ s.g))).drew
  clear hbc hbf hBN0 hRN0 hbN0
  obtain ⟨x1, hx1⟩ : ∃ x, x = rotr s.f 7 ^^^ s.g := ⟨_, rfl⟩
  rw [← hx1] at hBN1 hRN1 hbN1 ⊢
  have HX1 := Lib.hid hx1
  clear hx1
  generalize (wN0.setCell _ _).drew = wN1 at *
  refine wp_region_T 9 (by kernel_rfl) (by kernel_rfl) (by kernel_rfl) ?_
  simp only [List.take_succ_cons, List.take_zero, List.drop_succ_cons, List.drop_zero]
  have hcL := hBN1.drew.cellL
  refine E_move (rho_base rfl rfl) ?_
  refine E_move (rho_base rfl rfl) ?_
  refine E_indexArr (rho_base rfl rfl) (rho_env rfl) ar25 ⟨by decide, by decide, rfl⟩ ?_
  refine E_load (rho_env rfl) on24 ((hcL _).trans rfl) ?_
  refine E_move (rho_base rfl rfl) ?_
  refine E_indexArr (rho_base rfl rfl) (rho_env rfl) ar25 ⟨by decide, by decide, rfl⟩ ?_
  refine E_load (rho_env rfl) on24 ((hcL _).trans rfl) ?_
  refine E_subW (rho_env rfl) (rho_env rfl) ?_
  refine E_indexArr (rho_base rfl rfl) (rho_env rfl) ar25 ⟨by decide, by decide, rfl⟩ ?_
  refine E_nil ?_
  clear hcL
  have hbc := hBN1.drew.cell
  have hbf := hBN1.drew.frozen
  refine wpList_norm (rfl : setsL _ 0 _ = [_, _, _, _, _, _, _, _, _, _, _, _, _, _, _, _, _, _, _, _, _, _, _, _, _, _, _, _, _, _, _, _, _, _, _, _, _, _, _, _, _, _, _, _, _, _, _, _, _, _, _, _, _, _, _, _, _, _, _, _, _, _, _, _, _, _, _, _, _, _, _, _, _, _, _, _, _, _, _, _, _, _, _, _, _, _, _, _]) ?_
  simp only [Nat.zero_add, Int.reduceToNat]
  go_wp2
  have hBN2 : Blk (wN1.setCell ⟨w.heap.size, 6, none⟩ (W (s.g - s.h))).drew w.heap.size #[W s.a, W s.b, W s.c, W s.d, W s.e, W x1, W (s.g - s.h), W s.h] 25 := (hBN1.set 6 _).drew
  have hRN2 := (hRN1.setOther ⟨w.heap.size, 6, none⟩ (W (s.g - s.h)) (by simp)).drew
  have hbN2 := (hbN1.setCell (p := ⟨w.heap.size, 6, none⟩) (Nat.le_refl _) (W (s.g - s.h))).drew
  clear hbc hbf hBN1 hRN1 hbN1
  obtain ⟨x2, hx2⟩ : ∃ x, x = s.g - s.h := ⟨_, rfl⟩
  rw [← hx2] at hBN2 hRN2 hbN2 ⊢
  have HX2 := Lib.hid hx2
  clear hx2
  generalize (wN1.setCell _ _).drew = wN2 at *
  refine wp_region_T 10 (by kernel_rfl) (by kernel_rfl) (by kernel_rfl) ?_
  simp only [List.take_succ_cons, List.take_zero, List.drop_succ_cons, List.drop_zero]
  have hcL := hBN2.drew.cellL
  refine E_move (rho_base rfl rfl) ?_
  refine E_move (rho_base rfl rfl) ?_
  refine E_indexArr (rho_base rfl rfl) (rho_env rfl) ar25 ⟨by decide, by decide, rfl⟩ ?_
  refine E_load (rho_env rfl) on24 ((hcL _).trans rfl) ?_
  refine E_callf pf48 (map2 (rho_env rfl) rho_const) (right_any _ _ (by simp) _) ?_
  refine E_move (rho_base rfl rfl) ?_
  refine E_indexArr (rho_base rfl rfl) (rho_env rfl) ar25 ⟨by decide, by decide, rfl⟩ ?_
  refine E_load (rho_env rfl) on24 ((hcL _).trans rfl) ?_
  refine E_xorW (rho_env rfl) (rho_env rfl) ?_
  refine E_indexArr (rho_base rfl rfl) (rho_env rfl) ar25 ⟨by decide, by decide, rfl⟩ ?_
  refine E_nil ?_
  clear hcL
  have hbc := hBN2.drew.cell
  have hbf := hBN2.drew.frozen
  refine wpList_norm (rfl : setsL _ 0 _ = [_, _, _, _, _, _, _, _, _, _, _, _, _, _, _, _, _, _, _, _, _, _, _, _, _, _, _, _, _, _, _, _, _, _, _, _, _, _, _, _, _, _, _, _, _, _, _, _, _, _, _, _, _, _, _, _, _, _, _, _, _, _, _, _, _, _, _, _, _, _, _, _, _, _, _, _, _, _, _, _, _, _, _, _, _, _, _, _]) ?_
  simp only [Nat.zero_add, Int.reduceToNat]
  go_wp2
  have hBN3 : Blk (wN2.setCell ⟨w.heap.size, 7, none⟩ (W (rotr s.h 8 ^^^ s.e))).drew w.heap.size #[W s.a, W s.b, W s.c, W s.d, W s.e, W x1, W x2, W (rotr s.h 8 ^^^ s.e)] 25 := (hBN2.set 7 _).drew
  have hRN3 := (hRN2.setOther ⟨w.heap.size, 7, none⟩ (W (rotr s.h 8 ^^^ s.e)) (by simp)).drew
  have hbN3 := (hbN2.setCell (p := ⟨w.heap.size, 7, none⟩) (Nat.le_refl _) (W (rotr s.h 8 ^^^ s.e))).drew
  clear hbc hbf hBN2 hRN2 hbN2
  obtain ⟨x3, hx3⟩ : ∃ x, x = rotr s.h 8 ^^^ s.e := ⟨_, rfl⟩
  rw [← hx3] at hBN3 hRN3 hbN3 ⊢
  have HX3 := Lib.hid hx3
  clear hx3
  generalize (wN2.setCell _ _).drew = wN3 at *
  refine wp_region_T 9 (by kernel_rfl) (by kernel_rfl) (by kernel_rfl) ?_
  simp only [List.take_succ_cons, List.take_zero, List.drop_succ_cons, List.drop_zero]
  have hcL := hBN3.drew.cellL
  refine E_move (rho_base rfl rfl) ?_
  refine E_move (rho_base rfl rfl) ?_
  refine E_indexArr (rho_base rfl rfl) (rho_env rfl) ar25 ⟨by decide, by decide, rfl⟩ ?_
  refine E_load (rho_env rfl) on24 ((hcL _).trans rfl) ?_
  refine E_move (rho_base rfl rfl) ?_
  refine E_indexArr (rho_base rfl rfl) (rho_env rfl) ar25 ⟨by decide, by decide, rfl⟩ ?_
  refine E_load (rho_env rfl) on24 ((hcL _).trans rfl) ?_
  refine E_subW (rho_env rfl) (rho_env rfl) ?_
  refine E_indexArr (rho_base rfl rfl) (rho_env rfl) ar25 ⟨by decide, by decide, rfl⟩ ?_
  refine E_nil ?_
  clear hcL
  have hbc := hBN3.drew.cell
  have hbf := hBN3.drew.frozen
  refine wpList_norm (rfl : setsL _ 0 _ = [_, _, _, _, _, _, _, _, _, _, _, _, _, _, _, _, _, _, _, _, _, _, _, _, _, _, _, _, _, _, _, _, _, _, _, _, _, _, _, _, _, _, _, _, _, _, _, _, _, _, _, _, _, _, _, _, _, _, _, _, _, _, _, _, _, _, _, _, _, _, _, _, _, _, _, _, _, _, _, _, _, _, _, _, _, _, _, _]) ?_
  simp only [Nat.zero_add, Int.reduceToNat]
  go_wp2
  have hBN4 : Blk (wN3.setCell ⟨w.heap.size, 4, none⟩ (W (s.e - x1))).drew w.heap.size #[W s.a, W s.b, W s.c, W s.d, W (s.e - x1), W x1, W x2, W x3] 25 := (hBN3.set 4 _).drew
  have hRN4 := (hRN3.setOther ⟨w.heap.size, 4, none⟩ (W (s.e - x1)) (by simp)).drew
  have hbN4 := (hbN3.setCell (p := ⟨w.heap.size, 4, none⟩) (Nat.le_refl _) (W (s.e - x1))).drew
  clear hbc hbf hBN3 hRN3 hbN3
  obtain ⟨x4, hx4⟩ : ∃ x, x = s.e - x1 := ⟨_, rfl⟩
  rw [← hx4] at hBN4 hRN4 hbN4 ⊢
  have HX4 := Lib.hid hx4
  clear hx4
  generalize (wN3.setCell _ _).drew = wN4 at *
  refine wp_region_T 10 (by kernel_rfl) (by kernel_rfl) (by kernel_rfl) ?_
  simp only [List.take_succ_cons, List.take_zero, List.drop_succ_cons, List.drop_zero]
  have hcL := hBN4.drew.cellL
  refine E_move (rho_base rfl rfl) ?_
  refine E_move (rho_base rfl rfl) ?_
  refine E_indexArr (rho_base rfl rfl) (rho_env rfl) ar25 ⟨by decide, by decide, rfl⟩ ?_
  refine E_load (rho_env rfl) on24 ((hcL _).trans rfl) ?_
  refine E_callf pf48 (map2 (rho_env rfl) rho_const) (right_any _ _ (by simp) _) ?_
  refine E_move (rho_base rfl rfl) ?_
  refine E_indexArr (rho_base rfl rfl) (rho_env rfl) ar25 ⟨by decide, by decide, rfl⟩ ?_
  refine E_load (rho_env rfl) on24 ((hcL _).trans rfl) ?_
  refine E_xorW (rho_env rfl) (rho_env rfl) ?_
  refine E_indexArr (rho_base rfl rfl) (rho_env rfl) ar25 ⟨by decide, by decide, rfl⟩ ?_
  refine E_nil ?_
  clear hcL
  have hbc := hBN4.drew.cell
  have hbf := hBN4.drew.frozen
  refine wpList_norm (rfl : setsL _ 0 _ = [_, _, _, _, _, _, _, _, _, _, _, _, _, _, _, _, _, _, _, _, _, _, _, _, _, _, _, _, _, _, _, _, _, _, _, _, _, _, _, _, _, _, _, _, _, _, _, _, _, _, _, _, _, _, _, _, _, _, _, _, _, _, _, _, _, _, _, _, _, _, _, _, _, _, _, _, _, _, _, _, _, _, _, _, _, _, _, _]) ?_
  simp only [Nat.zero_add, Int.reduceToNat]
  go_wp2
  have hBN5 : Blk (wN4.setCell ⟨w.heap.size, 5, none⟩ (W (rotr x1 12 ^^^ x2))).drew w.heap.size #[W s.a, W s.b, W s.c, W s.d, W x4, W (rotr x1 12 ^^^ x2), W x2, W x3] 25 := (hBN4.set 5 _).drew
  have hRN5 := (hRN4.setOther ⟨w.heap.size, 5, none⟩ (W (rotr x1 12 ^^^ x2)) (by simp)).drew
  have hbN5 := (hbN4.setCell (p := ⟨w.heap.size, 5, none⟩) (Nat.le_refl _) (W (rotr x1 12 ^^^ x2))).drew
  clear hbc hbf hBN4 hRN4 hbN4
  obtain ⟨x5, hx5⟩ : ∃ x, x = rotr x1 12 ^^^ x2 := ⟨_, rfl⟩
  rw [← hx5] at hBN5 hRN5 hbN5 ⊢
  have HX5 := Lib.hid hx5
  clear hx5
  generalize (wN4.setCell _ _).drew = wN5 at *
  refine wp_region_T 9 (by kernel_rfl) (by kernel_rfl) (by kernel_rfl) ?_
  simp only [List.take_succ_cons, List.take_zero, List.drop_succ_cons, List.drop_zero]
  have hcL := hBN5.drew.cellL
  refine E_move (rho_base rfl rfl) ?_
  refine E_move (rho_base rfl rfl) ?_
  refine E_indexArr (rho_base rfl rfl) (rho_env rfl) ar25 ⟨by decide, by decide, rfl⟩ ?_
  refine E_load (rho_env rfl) on24 ((hcL _).trans rfl) ?_
  refine E_move (rho_base rfl rfl) ?_
  refine E_indexArr (rho_base rfl rfl) (rho_env rfl) ar25 ⟨by decide, by decide, rfl⟩ ?_
  refine E_load (rho_env rfl) on24 ((hcL _).trans rfl) ?_
  refine E_subW (rho_env rfl) (rho_env rfl) ?_
  refine E_indexArr (rho_base rfl rfl) (rho_env rfl) ar25 ⟨by decide, by decide, rfl⟩ ?_
  refine E_nil ?_
  clear hcL
  have hbc := hBN5.drew.cell
  have hbf := hBN5.drew.frozen
  refine wpList_norm (rfl : setsL _ 0 _ = [_, _, _, _, _, _, _, _, _, _, _, _, _, _, _, _, _, _, _, _, _, _, _, _, _, _, _, _, _, _, _, _, _, _, _, _, _, _, _, _, _, _, _, _, _, _, _, _, _, _, _, _, _, _, _, _, _, _, _, _, _, _, _, _, _, _, _, _, _, _, _, _, _, _, _, _, _, _, _, _, _, _, _, _, _, _, _, _]) ?_
  simp only [Nat.zero_add, Int.reduceToNat]
  go_wp2
  have hBN6 : Blk (wN5.setCell ⟨w.heap.size, 6, none⟩ (W (x2 - x3))).drew w.heap.size #[W s.a, W s.b, W s.c, W s.d, W x4, W x5, W (x2 - x3), W x3] 25 := (hBN5.set 6 _).drew
  have hRN6 := (hRN5.setOther ⟨w.heap.size, 6, none⟩ (W (x2 - x3)) (by simp)).drew
  have hbN6 := (hbN5.setCell (p := ⟨w.heap.size, 6, none⟩) (Nat.le_refl _) (W (x2 - x3))).drew
  clear hbc hbf hBN5 hRN5 hbN5
  obtain ⟨x6, hx6⟩ : ∃ x, x = x2 - x3 := ⟨_, rfl⟩
  rw [← hx6] at hBN6 hRN6 hbN6 ⊢
  have HX6 := Lib.hid hx6
  clear hx6
  generalize (wN5.setCell _ _).drew = wN6 at *
  refine wp_region_T 10 (by kernel_rfl) (by kernel_rfl) (by kernel_rfl) ?_
  simp only [List.take_succ_cons, List.take_zero, List.drop_succ_cons, List.drop_zero]
  have hcL := hBN6.drew.cellL
  refine E_move (rho_base rfl rfl) ?_
  refine E_move (rho_base rfl rfl) ?_
  refine E_indexArr (rho_base rfl rfl) (rho_env rfl) ar25 ⟨by decide, by decide, rfl⟩ ?_
  refine E_load (rho_env rfl) on24 ((hcL _).trans rfl) ?_
  refine E_callf pf48 (map2 (rho_env rfl) rho_const) (right_any _ _ (by simp) _) ?_
  refine E_move (rho_base rfl rfl) ?_
  refine E_indexArr (rho_base rfl rfl) (rho_env rfl) ar25 ⟨by decide, by decide, rfl⟩ ?_
  refine E_load (rho_env rfl) on24 ((hcL _).trans rfl) ?_
  refine E_xorW (rho_env rfl) (rho_env rfl) ?_
  refine E_indexArr (rho_base rfl rfl) (rho_env rfl) ar25 ⟨by decide, by decide, rfl⟩ ?_
  refine E_nil ?_
  clear hcL
  have hbc := hBN6.drew.cell
  have hbf := hBN6.drew.frozen
  refine wpList_norm (rfl : setsL _ 0 _ = [_, _, _, _, _, _, _, _, _, _, _, _, _, _, _, _, _, _, _, _, _, _, _, _, _, _, _, _, _, _, _, _, _, _, _, _, _, _, _, _, _, _, _, _, _, _, _, _, _, _, _, _, _, _, _, _, _, _, _, _, _, _, _, _, _, _, _, _, _, _, _, _, _, _, _, _, _, _, _, _, _, _, _, _, _, _, _, _]) ?_
  simp only [Nat.zero_add, Int.reduceToNat]
  go_wp2
  have hBN7 : Blk (wN6.setCell ⟨w.heap.size, 7, none⟩ (W (rotr x3 16 ^^^ x4))).drew w.heap.size #[W s.a, W s.b, W s.c, W s.d, W x4, W x5, W x6, W (rotr x3 16 ^^^ x4)] 25 := (hBN6.set 7 _).drew
  have hRN7 := (hRN6.setOther ⟨w.heap.size, 7, none⟩ (W (rotr x3 16 ^^^ x4)) (by simp)).drew
  have hbN7 := (hbN6.setCell (p := ⟨w.heap.size, 7, none⟩) (Nat.le_refl _) (W (rotr x3 16 ^^^ x4))).drew
  clear hbc hbf hBN6 hRN6 hbN6
  obtain ⟨x7, hx7⟩ : ∃ x, x = rotr x3 16 ^^^ x4 := ⟨_, rfl⟩
  rw [← hx7] at hBN7 hRN7 hbN7 ⊢
  have HX7 := Lib.hid hx7
  clear hx7
  generalize (wN6.setCell _ _).drew = wN7 at *
  refine wp_region_T 9 (by kernel_rfl) (by kernel_rfl) (by kernel_rfl) ?_
  simp only [List.take_succ_cons, List.take_zero, List.drop_succ_cons, List.drop_zero]
  have hcL := hBN7.drew.cellL
  refine E_move (rho_base rfl rfl) ?_
  refine E_move (rho_base rfl rfl) ?_
  refine E_indexArr (rho_base rfl rfl) (rho_env rfl) ar25 ⟨by decide, by decide, rfl⟩ ?_
  refine E_load (rho_env rfl) on24 ((hcL _).trans rfl) ?_
  refine E_move (rho_base rfl rfl) ?_
  refine E_indexArr (rho_base rfl rfl) (rho_env rfl) ar25 ⟨by decide, by decide, rfl⟩ ?_
  refine E_load (rho_env rfl) on24 ((hcL _).trans rfl) ?_
  refine E_subW (rho_env rfl) (rho_env rfl) ?_
  refine E_indexArr (rho_base rfl rfl) (rho_env rfl) ar25 ⟨by decide, by decide, rfl⟩ ?_
  refine E_nil ?_
  clear hcL
  have hbc := hBN7.drew.cell
  have hbf := hBN7.drew.frozen
  refine wpList_norm (rfl : setsL _ 0 _ = [_, _, _, _, _, _, _, _, _, _, _, _, _, _, _, _, _, _, _, _, _, _, _, _, _, _, _, _, _, _, _, _, _, _, _, _, _, _, _, _, _, _, _, _, _, _, _, _, _, _, _, _, _, _, _, _, _, _, _, _, _, _, _, _, _, _, _, _, _, _, _, _, _, _, _, _, _, _, _, _, _, _, _, _, _, _, _, _]) ?_
  simp only [Nat.zero_add, Int.reduceToNat]
  go_wp2_with (refine (show wpList _ _ _ (⟨some 87, .load 25 (.tmp 5), _, _, _, _⟩ :: _) _ _ from stop_here ?_))
  have hBN8 : Blk (wN7.setCell ⟨w.heap.size, 4, none⟩ (W (x4 - x5))).drew w.heap.size #[W s.a, W s.b, W s.c, W s.d, W (x4 - x5), W x5, W x6, W x7] 25 := (hBN7.set 4 _).drew
  have hRN8 := (hRN7.setOther ⟨w.heap.size, 4, none⟩ (W (x4 - x5)) (by simp)).drew
  have hbN8 := (hbN7.setCell (p := ⟨w.heap.size, 4, none⟩) (Nat.le_refl _) (W (x4 - x5))).drew
  clear hbc hbf hBN7 hRN7 hbN7
  obtain ⟨x8, hx8⟩ : ∃ x, x = x4 - x5 := ⟨_, rfl⟩
  rw [← hx8] at hBN8 hRN8 hbN8 ⊢
  have HX8 := Lib.hid hx8
  clear hx8
  generalize (wN7.setCell _ _).drew = wN8 at *
  refine Stop.go (wpList_load_row rfl 25 (.tmp 5) rfl w.heap.size rfl 25 _ (0, 0) _ hBN8 Try.underlying25 rfl (by kernel_rfl) ?_)
  go_wp2_with (refine (show wpList _ _ _ (⟨none, .store 25 (.tmp 10) (.tmp 87), _, _, _, _⟩ :: _) _ _ from stop_here ?_))
  refine Stop.go (wpList_store_blk rfl rfl rfl rfl hRN8 rfl (by kernel_rfl) (by simp [Value.oneCell']) ?_)
  intro w3 hR3 hO3
  have hb3 := hbN8.trans (hO3.below (by omega) hbN8.size)
  clear hO3 hRN8 hBN8 hbN8
  go_wp2
  refine bodyPost_ret (results_cell_row rfl _ _ (w.heap.size + 1) 25 _ (0, 0) _ rfl hR3 Try.underlying25 rfl (by kernel_rfl)) rfl ⟨?_, hb3⟩
  have e1 := HX1.out; have e2 := HX2.out; have e3 := HX3.out; have e4 := HX4.out; have e5 := HX5.out; have e6 := HX6.out; have e7 := HX7.out; have e8 := HX8.out
  clear HX1 HX2 HX3 HX4 HX5 HX6 HX7 HX8
  subst e1 e2 e3 e4 e5 e6 e7 e8
  rfl
set_option maxRecDepth 100000 in
set_option maxHeartbeats 2000000 in
theorem undo_4 (s : S8) (w : World) :
    Calls Try.prog 37 #[.agg s.vals, .int .i64 0, .int .i64 1, .int .i64 2, .int .i64 3] w fun e w' => e = .returned (.agg #[W (unq s.a s.b s.c s.d).1, W (unq s.a s.b s.c s.d).2.1, W (unq s.a s.b s.c s.d).2.2.1, W (unq s.a s.b s.c s.d).2.2.2, W s.e, W s.f, W s.g, W s.h]) ∧ Below w.heap.size w w' := by
  show Calls Try.prog 37 #[.agg #[W s.a, W s.b, W s.c, W s.d, W s.e, W s.f, W s.g, W s.h], _, _, _, _] w _
  go_enter Try.func37, Try.ntmps37
  go_wp2
  have hBN0 : Blk ((w.alloc (.cells #[W s.a, W s.b, W s.c, W s.d, W s.e, W s.f, W s.g, W s.h] 25)).alloc (.cells S8.zero.vals 25)) w.heap.size #[W s.a, W s.b, W s.c, W s.d, W s.e, W s.f, W s.g, W s.h] 25 := (Blk.new w _ 25).alloc _
  have hRN0 : Blk ((w.alloc (.cells #[W s.a, W s.b, W s.c, W s.d, W s.e, W s.f, W s.g, W s.h] 25)).alloc (.cells S8.zero.vals 25)) (w.heap.size + 1) S8.zero.vals 25 := Blk.newAt (by simp) _ 25
  have hbN0 : Below w.heap.size w ((w.alloc (.cells #[W s.a, W s.b, W s.c, W s.d, W s.e, W s.f, W s.g, W s.h] 25)).alloc (.cells S8.zero.vals 25)) := ((Below.refl _ _).alloc (Nat.le_refl _) _).alloc (by simp) _
  have hv : S8.zero.vals = #[.int .u32 0, .int .u32 0, .int .u32 0, .int .u32 0, .int .u32 0, .int .u32 0, .int .u32 0, .int .u32 0] := rfl
  rw [hv] at hBN0 hRN0 hbN0
  clear hv
  generalize ((w.alloc (.cells #[W s.a, W s.b, W s.c, W s.d, W s.e, W s.f, W s.g, W s.h] 25)).alloc (.cells _ 25)) = wN0 at *
  refine wp_region_T 10 (by kernel_rfl) (by kernel_rfl) (by kernel_rfl) ?_
  simp only [List.take_succ_cons, List.take_zero, List.drop_succ_cons, List.drop_zero]
  have hcL := hBN0.drew.cellL
  refine E_move (rho_base rfl rfl) ?_
  refine E_move (rho_base rfl rfl) ?_
  refine E_indexArr (rho_base rfl rfl) (rho_env rfl) ar25 ⟨by decide, by decide, rfl⟩ ?_
  refine E_load (rho_env rfl) on24 ((hcL _).trans rfl) ?_
  refine E_callf pf48 (map2 (rho_env rfl) rho_const) (right_any _ _ (by simp) _) ?_
  refine E_move (rho_base rfl rfl) ?_
  refine E_indexArr (rho_base rfl rfl) (rho_env rfl) ar25 ⟨by decide, by decide, rfl⟩ ?_
  refine E_load (rho_env rfl) on24 ((hcL _).trans rfl) ?_
  refine E_xorW (rho_env rfl) (rho_env rfl) ?_
  refine E_indexArr (rho_base rfl rfl) (rho_env rfl) ar25 ⟨by decide, by decide, rfl⟩ ?_
  refine E_nil ?_
  clear hcL
  have hbc := hBN0.drew.cell
  have hbf := hBN0.drew.frozen
  refine wpList_norm (rfl : setsL _ 0 _ = [_, _, _, _, _, _, _, _, _, _, _, _, _, _, _, _, _, _, _, _, _, _, _, _, _, _, _, _, _, _, _, _, _, _, _, _, _, _, _, _, _, _, _, _, _, _, _, _, _, _, _, _, _, _, _, _, _, _, _, _, _, _, _, _, _, _, _, _, _, _, _, _, _, _, _, _, _, _, _, _, _, _, _, _, _, _, _, _]) ?_
  simp only [Nat.zero_add, Int.reduceToNat]
  go_wp2
  have hBN1 : Blk (wN0.setCell ⟨w.heap.size, 1, none⟩ (W (rotr s.b 7 ^^^ s.c))).drew w.heap.size #[W s.a, W (rotr s.b 7 ^^^ s.c), W s.c, W s.d, W s.e, W s.f, W s.g, W s.h] 25 := (hBN0.set 1 _).drew
  have hRN1 := (hRN0.setOther ⟨w.heap.size, 1, none⟩ (W (rotr s.b 7 ^^^ s.c)) (by simp)).drew
  have hbN1 := (hbN0.setCell (p := ⟨w.heap.size, 1, none⟩) (Nat.le_refl _) (W (rotr s.b 7 ^^^ s.c))).drew
  clear hbc hbf hBN0 hRN0 hbN0
  obtain ⟨x1, hx1⟩ : ∃ x, x = rotr s.b 7 ^^^ s.c := ⟨_, rfl⟩
  rw [← hx1] at hBN1 hRN1 hbN1 ⊢
  have HX1 := Lib.hid hx1
  clear hx1
  generalize (wN0.setCell _ _).drew = wN1 at *
  refine wp_region_T 9 (by kernel_rfl) (by kernel_rfl) (by kernel_rfl) ?_
  simp only [List.take_succ_cons, List.take_zero, List.drop_succ_cons, List.drop_zero]
  have hcL := hBN1.drew.cellL
  refine E_move (rho_base rfl rfl) ?_
  refine E_move (rho_base rfl rfl) ?_
  refine E_indexArr (rho_base rfl rfl) (rho_env rfl) ar25 ⟨by decide, by decide, rfl⟩ ?_
  refine E_load (rho_env rfl) on24 ((hcL _).trans rfl) ?_
  refine E_move (rho_base rfl rfl) ?_
  refine E_indexArr (rho_base rfl rfl) (rho_env rfl) ar25 ⟨by decide, by decide, rfl⟩ ?_
  refine E_load (rho_env rfl) on24 ((hcL _).trans rfl) ?_
  refine E_subW (rho_env rfl) (rho_env rfl) ?_
  refine E_indexArr (rho_base rfl rfl) (rho_env rfl) ar25 ⟨by decide, by decide, rfl⟩ ?_
  refine E_nil ?_
  clear hcL
  have hbc := hBN1.drew.cell
  have hbf := hBN1.drew.frozen
  refine wpList_norm (rfl : setsL _ 0 _ = [_, _, _, _, _, _, _, _, _, _, _, _, _, _, _, _, _, _, _, _, _, _, _, _, _, _, _, _, _, _, _, _, _, _, _, _, _, _, _, _, _, _, _, _, _, _, _, _, _, _, _, _, _, _, _, _, _, _, _, _, _, _, _, _, _, _, _, _, _, _, _, _, _, _, _, _, _, _, _, _, _, _, _, _, _, _, _, _]) ?_
  simp only [Nat.zero_add, Int.reduceToNat]
  go_wp2
  have hBN2 : Blk (wN1.setCell ⟨w.heap.size, 2, none⟩ (W (s.c - s.d))).drew w.heap.size #[W s.a, W x1, W (s.c - s.d), W s.d, W s.e, W s.f, W s.g, W s.h] 25 := (hBN1.set 2 _).drew
  have hRN2 := (hRN1.setOther ⟨w.heap.size, 2, none⟩ (W (s.c - s.d)) (by simp)).drew
  have hbN2 := (hbN1.setCell (p := ⟨w.heap.size, 2, none⟩) (Nat.le_refl _) (W (s.c - s.d))).drew
  clear hbc hbf hBN1 hRN1 hbN1
  obtain ⟨x2, hx2⟩ : ∃ x, x = s.c - s.d := ⟨_, rfl⟩
  rw [← hx2] at hBN2 hRN2 hbN2 ⊢
  have HX2 := Lib.hid hx2
  clear hx2
  generalize (wN1.setCell _ _).drew = wN2 at *
  refine wp_region_T 10 (by kernel_rfl) (by kernel_rfl) (by kernel_rfl) ?_
  simp only [List.take_succ_cons, List.take_zero, List.drop_succ_cons, List.drop_zero]
  have hcL := hBN2.drew.cellL
  refine E_move (rho_base rfl rfl) ?_
  refine E_move (rho_base rfl rfl) ?_
  refine E_indexArr (rho_base rfl rfl) (rho_env rfl) ar25 ⟨by decide, by decide, rfl⟩ ?_
  refine E_load (rho_env rfl) on24 ((hcL _).trans rfl) ?_
  refine E_callf pf48 (map2 (rho_env rfl) rho_const) (right_any _ _ (by simp) _) ?_
  refine E_move (rho_base rfl rfl) ?_
  refine E_indexArr (rho_base rfl rfl) (rho_env rfl) ar25 ⟨by decide, by decide, rfl⟩ ?_
  refine E_load (rho_env rfl) on24 ((hcL _).trans rfl) ?_
  refine E_xorW (rho_env rfl) (rho_env rfl) ?_
  refine E_indexArr (rho_base rfl rfl) (rho_env rfl) ar25 ⟨by decide, by decide, rfl⟩ ?_
  refine E_nil ?_
  clear hcL
  have hbc := hBN2.drew.cell
  have hbf := hBN2.drew.frozen
  refine wpList_norm (rfl : setsL _ 0 _ = [_, _, _, _, _, _, _, _, _, _, _, _, _, _, _, _, _, _, _, _, _, _, _, _, _, _, _, _, _, _, _, _, _, _, _, _, _, _, _, _, _, _, _, _, _, _, _, _, _, _, _, _, _, _, _, _, _, _, _, _, _, _, _, _, _, _, _, _, _, _, _, _, _, _, _, _, _, _, _, _, _, _, _, _, _, _, _, _]) ?_
  simp only [Nat.zero_add, Int.reduceToNat]
  go_wp2
  have hBN3 : Blk (wN2.setCell ⟨w.heap.size, 3, none⟩ (W (rotr s.d 8 ^^^ s.a))).drew w.heap.size #[W s.a, W x1, W x2, W (rotr s.d 8 ^^^ s.a), W s.e, W s.f, W s.g, W s.h] 25 := (hBN2.set 3 _).drew
  have hRN3 := (hRN2.setOther ⟨w.heap.size, 3, none⟩ (W (rotr s.d 8 ^^^ s.a)) (by simp)).drew
  have hbN3 := (hbN2.setCell (p := ⟨w.heap.size, 3, none⟩) (Nat.le_refl _) (W (rotr s.d 8 ^^^ s.a))).drew
  clear hbc hbf hBN2 hRN2 hbN2
  obtain ⟨x3, hx3⟩ : ∃ x, x = rotr s.d 8 ^^^ s.a := ⟨_, rfl⟩
  rw [← hx3] at hBN3 hRN3 hbN3 ⊢
  have HX3 := Lib.hid hx3
  clear hx3
  generalize (wN2.setCell _ _).drew = wN3 at *
  refine wp_region_T 9 (by kernel_rfl) (by kernel_rfl) (by kernel_rfl) ?_
  simp only [List.take_succ_cons, List.take_zero, List.drop_succ_cons, List.drop_zero]
  have hcL := hBN3.drew.cellL
  refine E_move (rho_base rfl rfl) ?_
  refine E_move (rho_base rfl rfl) ?_
  refine E_indexArr (rho_base rfl rfl) (rho_env rfl) ar25 ⟨by decide, by decide, rfl⟩ ?_
  refine E_load (rho_env rfl) on24 ((hcL _).trans rfl) ?_
  refine E_move (rho_base rfl rfl) ?_
  refine E_indexArr (rho_base rfl rfl) (rho_env rfl) ar25 ⟨by decide, by decide, rfl⟩ ?_
  refine E_load (rho_env rfl) on24 ((hcL _).trans rfl) ?_
  refine E_subW (rho_env rfl) (rho_env rfl) ?_
  refine E_indexArr (rho_base rfl rfl) (rho_env rfl) ar25 ⟨by decide, by decide, rfl⟩ ?_
  refine E_nil ?_
  clear hcL
  have hbc := hBN3.drew.cell
  have hbf := hBN3.drew.frozen
  refine wpList_norm (rfl : setsL _ 0 _ = [_, _, _, _, _, _, _, _, _, _, _, _, _, _, _, _, _, _, _, _, _, _, _, _, _, _, _, _, _, _, _, _, _, _, _, _, _, _, _, _, _, _, _, _, _, _, _, _, _, _, _, _, _, _, _, _, _, _, _, _, _, _, _, _, _, _, _, _, _, _, _, _, _, _, _, _, _, _, _, _, _, _, _, _, _, _, _, _]) ?_
  simp only [Nat.zero_add, Int.reduceToNat]
  go_wp2
  have hBN4 : Blk (wN3.setCell ⟨w.heap.size, 0, none⟩ (W (s.a - x1))).drew w.heap.size #[W (s.a - x1), W x1, W x2, W x3, W s.e, W s.f, W s.g, W s.h] 25 := (hBN3.set 0 _).drew
  have hRN4 := (hRN3.setOther ⟨w.heap.size, 0, none⟩ (W (s.a - x1)) (by simp)).drew
  have hbN4 := (hbN3.setCell (p := ⟨w.heap.size, 0, none⟩) (Nat.le_refl _) (W (s.a - x1))).drew
  clear hbc hbf hBN3 hRN3 hbN3
  obtain ⟨x4, hx4⟩ : ∃ x, x = s.a - x1 := ⟨_, rfl⟩
  rw [← hx4] at hBN4 hRN4 hbN4 ⊢
  have HX4 := Lib.hid hx4
  clear hx4
  generalize (wN3.setCell _ _).drew = wN4 at *
  refine wp_region_T 10 (by kernel_rfl) (by kernel_rfl) (by kernel_rfl) ?_
  simp only [List.take_succ_cons, List.take_zero, List.drop_succ_cons, List.drop_zero]
  have hcL := hBN4.drew.cellL
  refine E_move (rho_base rfl rfl) ?_
  refine E_move (rho_base rfl rfl) ?_
  refine E_indexArr (rho_base rfl rfl) (rho_env rfl) ar25 ⟨by decide, by decide, rfl⟩ ?_
  refine E_load (rho_env rfl) on24 ((hcL _).trans rfl) ?_
  refine E_callf pf48 (map2 (rho_env rfl) rho_const) (right_any _ _ (by simp) _) ?_
  refine E_move (rho_base rfl rfl) ?_
  refine E_indexArr (rho_base rfl rfl) (rho_env rfl) ar25 ⟨by decide, by decide, rfl⟩ ?_
  refine E_load (rho_env rfl) on24 ((hcL _).trans rfl) ?_
  refine E_xorW (rho_env rfl) (rho_env rfl) ?_
  refine E_indexArr (rho_base rfl rfl) (rho_env rfl) ar25 ⟨by decide, by decide, rfl⟩ ?_
  refine E_nil ?_
  clear hcL
  have hbc := hBN4.drew.cell
  have hbf := hBN4.drew.frozen
  refine wpList_norm (rfl : setsL _ 0 _ = [_, _, _, _, _, _, _, _, _, _, _, _, _, _, _, _, _, _, _, _, _, _, _, _, _, _, _, _, _, _, _, _, _, _, _, _, _, _, _, _, _, _, _, _, _, _, _, _, _, _, _, _, _, _, _, _, _, _, _, _, _, _, _, _, _, _, _, _, _, _, _, _, _, _, _, _, _, _, _, _, _, _, _, _, _, _, _, _]) ?_
  simp only [Nat.zero_add, Int.reduceToNat]
  go_wp2
  have hBN5 : Blk (wN4.setCell ⟨w.heap.size, 1, none⟩ (W (rotr x1 12 ^^^ x2))).drew w.heap.size #[W x4, W (rotr x1 12 ^^^ x2), W x2, W x3, W s.e, W s.f, W s.g, W s.h] 25 := (hBN4.set 1 _).drew
  have hRN5 := (hRN4.setOther ⟨w.heap.size, 1, none⟩ (W (rotr x1 12 ^^^ x2)) (by simp)).drew
  have hbN5 := (hbN4.setCell (p := ⟨w.heap.size, 1, none⟩) (Nat.le_refl _) (W (rotr x1 12 ^^^ x2))).drew
  clear hbc hbf hBN4 hRN4 hbN4
  obtain ⟨x5, hx5⟩ : ∃ x, x = rotr x1 12 ^^^ x2 := ⟨_, rfl⟩
  rw [← hx5] at hBN5 hRN5 hbN5 ⊢
  have HX5 := Lib.hid hx5
  clear hx5
  generalize (wN4.setCell _ _).drew = wN5 at *
  refine wp_region_T 9 (by kernel_rfl) (by kernel_rfl) (by kernel_rfl) ?_
  simp only [List.take_succ_cons, List.take_zero, List.drop_succ_cons, List.drop_zero]
  have hcL := hBN5.drew.cellL
  refine E_move (rho_base rfl rfl) ?_
  refine E_move (rho_base rfl rfl) ?_
  refine E_indexArr (rho_base rfl rfl) (rho_env rfl) ar25 ⟨by decide, by decide, rfl⟩ ?_
  refine E_load (rho_env rfl) on24 ((hcL _).trans rfl) ?_
  refine E_move (rho_base rfl rfl) ?_
  refine E_indexArr (rho_base rfl rfl) (rho_env rfl) ar25 ⟨by decide, by decide, rfl⟩ ?_
  refine E_load (rho_env rfl) on24 ((hcL _).trans rfl) ?_
  refine E_subW (rho_env rfl) (rho_env rfl) ?_
  refine E_indexArr (rho_base rfl rfl) (rho_env rfl) ar25 ⟨by decide, by decide, rfl⟩ ?_
  refine E_nil ?_
  clear hcL
  have hbc := hBN5.drew.cell
  have hbf := hBN5.drew.frozen
  refine wpList_norm (rfl : setsL _ 0 _ = [_, _, _, _, _, _, _, _, _, _, _, _, _, _, _, _, _, _, _, _, _, _, _, _, _, _, _, _, _, _, _, _, _, _, _, _, _, _, _, _, _, _, _, _, _, _, _, _, _, _, _, _, _, _, _, _, _, _, _, _, _, _, _, _, _, _, _, _, _, _, _, _, _, _, _, _, _, _, _, _, _, _, _, _, _, _, _, _]) ?_
  simp only [Nat.zero_add, Int.reduceToNat]
  go_wp2
  have hBN6 : Blk (wN5.setCell ⟨w.heap.size, 2, none⟩ (W (x2 - x3))).drew w.heap.size #[W x4, W x5, W (x2 - x3), W x3, W s.e, W s.f, W s.g, W s.h] 25 := (hBN5.set 2 _).drew
  have hRN6 := (hRN5.setOther ⟨w.heap.size, 2, none⟩ (W (x2 - x3)) (by simp)).drew
  have hbN6 := (hbN5.setCell (p := ⟨w.heap.size, 2, none⟩) (Nat.le_refl _) (W (x2 - x3))).drew
  clear hbc hbf hBN5 hRN5 hbN5
  obtain ⟨x6, hx6⟩ : ∃ x, x = x2 - x3 := ⟨_, rfl⟩
  rw [← hx6] at hBN6 hRN6 hbN6 ⊢
  have HX6 := Lib.hid hx6
  clear hx6
  generalize (wN5.setCell _ _).drew = wN6 at *
  refine wp_region_T 10 (by kernel_rfl) (by kernel_rfl) (by kernel_rfl) ?_
  simp only [List.take_succ_cons, List.take_zero, List.drop_succ_cons, List.drop_zero]
  have hcL := hBN6.drew.cellL
  refine E_move (rho_base rfl rfl) ?_
  refine E_move (rho_base rfl rfl) ?_
  refine E_indexArr (rho_base rfl rfl) (rho_env rfl) ar25 ⟨by decide, by decide, rfl⟩ ?_
  refine E_load (rho_env rfl) on24 ((hcL _).trans rfl) ?_
  refine E_callf pf48 (map2 (rho_env rfl) rho_const) (right_any _ _ (by simp) _) ?_
  refine E_move (rho_base rfl rfl) ?_
  refine E_indexArr (rho_base rfl rfl) (rho_env rfl) ar25 ⟨by decide, by decide, rfl⟩ ?_
  refine E_load (rho_env rfl) on24 ((hcL _).trans rfl) ?_
  refine E_xorW (rho_env rfl) (rho_env rfl) ?_
  refine E_indexArr (rho_base rfl rfl) (rho_env rfl) ar25 ⟨by decide, by decide, rfl⟩ ?_
  refine E_nil ?_
  clear hcL
  have hbc := hBN6.drew.cell
  have hbf := hBN6.drew.frozen
  refine wpList_norm (rfl : setsL _ 0 _ = [_, _, _, _, _, _, _, _, _, _, _, _, _, _, _, _, _, _, _, _, _, _, _, _, _, _, _, _, _, _, _, _, _, _, _, _, _, _, _, _, _, _, _, _, _, _, _, _, _, _, _, _, _, _, _, _, _, _, _, _, _, _, _, _, _, _, _, _, _, _, _, _, _, _, _, _, _, _, _, _, _, _, _, _, _, _, _, _]) ?_
  simp only [Nat.zero_add, Int.reduceToNat]
  go_wp2
  have hBN7 : Blk (wN6.setCell ⟨w.heap.size, 3, none⟩ (W (rotr x3 16 ^^^ x4))).drew w.heap.size #[W x4, W x5, W x6, W (rotr x3 16 ^^^ x4), W s.e, W s.f, W s.g, W s.h] 25 := (hBN6.set 3 _).drew
  have hRN7 := (hRN6.setOther ⟨w.heap.size, 3, none⟩ (W (rotr x3 16 ^^^ x4)) (by simp)).drew
  have hbN7 := (hbN6.setCell (p := ⟨w.heap.size, 3, none⟩) (Nat.le_refl _) (W (rotr x3 16 ^^^ x4))).drew
  clear hbc hbf hBN6 hRN6 hbN6
  obtain ⟨x7, hx7⟩ : ∃ x, x = rotr x3 16 ^^^ x4 := ⟨_, rfl⟩
  rw [← hx7] at hBN7 hRN7 hbN7 ⊢
  have HX7 := Lib.hid hx7
  clear hx7
  generalize (wN6.setCell _ _).drew = wN7 at *
  refine wp_region_T 9 (by kernel_rfl) (by kernel_rfl) (by kernel_rfl) ?_
  simp only [List.take_succ_cons, List.take_zero, List.drop_succ_cons, List.drop_zero]
  have hcL := hBN7.drew.cellL
  refine E_move (rho_base rfl rfl) ?_
  refine E_move (rho_base rfl rfl) ?_
  refine E_indexArr (rho_base rfl rfl) (rho_env rfl) ar25 ⟨by decide, by decide, rfl⟩ ?_
  refine E_load (rho_env rfl) on24 ((hcL _).trans rfl) ?_
  refine E_move (rho_base rfl rfl) ?_
  refine E_indexArr (rho_base rfl rfl) (rho_env rfl) ar25 ⟨by decide, by decide, rfl⟩ ?_
  refine E_load (rho_env rfl) on24 ((hcL _).trans rfl) ?_
  refine E_subW (rho_env rfl) (rho_env rfl) ?_
  refine E_indexArr (rho_base rfl rfl) (rho_env rfl) ar25 ⟨by decide, by decide, rfl⟩ ?_
  refine E_nil ?_
  clear hcL
  have hbc := hBN7.drew.cell
  have hbf := hBN7.drew.frozen
  refine wpList_norm (rfl : setsL _ 0 _ = [_, _, _, _, _, _, _, _, _, _, _, _, _, _, _, _, _, _, _, _, _, _, _, _, _, _, _, _, _, _, _, _, _, _, _, _, _, _, _, _, _, _, _, _, _, _, _, _, _, _, _, _, _, _, _, _, _, _, _, _, _, _, _, _, _, _, _, _, _, _, _, _, _, _, _, _, _, _, _, _, _, _, _, _, _, _, _, _]) ?_
  simp only [Nat.zero_add, Int.reduceToNat]
  go_wp2_with (refine (show wpList _ _ _ (⟨some 87, .load 25 (.tmp 5), _, _, _, _⟩ :: _) _ _ from stop_here ?_))
  have hBN8 : Blk (wN7.setCell ⟨w.heap.size, 0, none⟩ (W (x4 - x5))).drew w.heap.size #[W (x4 - x5), W x5, W x6, W x7, W s.e, W s.f, W s.g, W s.h] 25 := (hBN7.set 0 _).drew
  have hRN8 := (hRN7.setOther ⟨w.heap.size, 0, none⟩ (W (x4 - x5)) (by simp)).drew
  have hbN8 := (hbN7.setCell (p := ⟨w.heap.size, 0, none⟩) (Nat.le_refl _) (W (x4 - x5))).drew
  clear hbc hbf hBN7 hRN7 hbN7
  obtain ⟨x8, hx8⟩ : ∃ x, x = x4 - x5 := ⟨_, rfl⟩
  rw [← hx8] at hBN8 hRN8 hbN8 ⊢
  have HX8 := Lib.hid hx8
  clear hx8
  generalize (wN7.setCell _ _).drew = wN8 at *
  refine Stop.go (wpList_load_row rfl 25 (.tmp 5) rfl w.heap.size rfl 25 _ (0, 0) _ hBN8 Try.underlying25 rfl (by kernel_rfl) ?_)
  go_wp2_with (refine (show wpList _ _ _ (⟨none, .store 25 (.tmp 10) (.tmp 87), _, _, _, _⟩ :: _) _ _ from stop_here ?_))
  refine Stop.go (wpList_store_blk rfl rfl rfl rfl hRN8 rfl (by kernel_rfl) (by simp [Value.oneCell']) ?_)
  intro w3 hR3 hO3
  have hb3 := hbN8.trans (hO3.below (by omega) hbN8.size)
  clear hO3 hRN8 hBN8 hbN8
  go_wp2
  refine bodyPost_ret (results_cell_row rfl _ _ (w.heap.size + 1) 25 _ (0, 0) _ rfl hR3 Try.underlying25 rfl (by kernel_rfl)) rfl ⟨?_, hb3⟩
  have e1 := HX1.out; have e2 := HX2.out; have e3 := HX3.out; have e4 := HX4.out; have e5 := HX5.out; have e6 := HX6.out; have e7 := HX7.out; have e8 := HX8.out
  clear HX1 HX2 HX3 HX4 HX5 HX6 HX7 HX8
  subst e1 e2 e3 e4 e5 e6 e7 e8
  rfl
end Go.Proofs.Ytbbpcgodjncflaa
