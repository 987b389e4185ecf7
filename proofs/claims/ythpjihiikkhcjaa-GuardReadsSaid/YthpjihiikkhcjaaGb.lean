/-
  A part of the proofs of this seat: laws of the walk, or contracts of the functions that the statements reach. No conditions but those that each theorem names.
-/
import Derived.StillTailTactics
import Derived.BigRegion
import Derived.Test.YthpjihiikkhcjaaRows
import Derived.Test.YthpjihiikkhcjaaGa
namespace Go.Proofs.Ythpjihiikkhcjaa
open Go.RowKit Go.Sp
theorem and31 : bits .and .u64 16 31 = 16 ∧ bits .and .u64 12 31 = 12 ∧ bits .and .u64 8 31 = 8 ∧ bits .and .u64 7 31 = 7 := by decide +kernel
set_option maxHeartbeats 400000 in
theorem rotl_any (x : UInt32) (n : Int) (hn : n = 16 ∨ n = 12 ∨ n = 8 ∨ n = 7) (w : World) :
    Calls Try.prog 69 #[W x, .int .i64 n] w fun e w' => e = .returned (W (rotl x n.toNat)) ∧ w = w' := by
  obtain ⟨h1, h2, h3, h4⟩ := and31
  rcases hn with rfl | rfl | rfl | rfl
  all_goals
    go_enter Try.func69, Try.ntmps69
    go_wp2
    go_ret
    exact ⟨rfl, rfl⟩
set_option maxHeartbeats 400000 in
theorem quarter_any (a b c d : UInt32) (w : World) :
    Calls Try.prog 67 #[W a, W b, W c, W d] w fun e w' => e = .returned (.tuple #[W (quarter a b c d).1, W (quarter a b c d).2.1, W (quarter a b c d).2.2.1, W (quarter a b c d).2.2.2]) ∧ w = w' := by
  go_enter Try.func67, Try.ntmps67
  go_wp2_with (go_at_call 69; refine (rotl_any _ _ (by simp) _).mono ?_; rintro e w' ⟨rfl, rfl⟩)
  refine bodyPost_ret (v := .tuple #[W (quarter a b c d).1, W (quarter a b c d).2.1, W (quarter a b c d).2.2.1, W (quarter a b c d).2.2.2]) ?_ rfl ⟨rfl, rfl⟩
  simp [results, Try.results35, go_sem]
  exact ⟨rfl, rfl, rfl, rfl⟩
def mixW (w : World) (s : S8) : World := (w.alloc (.cells #[W s.a, W s.b, W s.c, W s.d, W s.e, W s.f, W s.g, W s.h] 25)).alloc
  (.cells #[.int .u32 0, .int .u32 0, .int .u32 0, .int .u32 0, .int .u32 0, .int .u32 0, .int .u32 0, .int .u32 0] 25)
theorem mixW_eq (w : World) (a b c d e f g h : UInt32) : mixW w ⟨a, b, c, d, e, f, g, h⟩ = (w.alloc (.cells #[W a, W b, W c, W d, W e, W f, W g, W h] 25)).alloc
  (.cells #[.int .u32 0, .int .u32 0, .int .u32 0, .int .u32 0, .int .u32 0, .int .u32 0, .int .u32 0, .int .u32 0] 25) := rfl
set_option maxRecDepth 100000 in
set_option maxHeartbeats 1000000 in
theorem mix_any (s : S8) (w : World) :
    Calls Try.prog 65 #[.agg #[W s.a, W s.b, W s.c, W s.d, W s.e, W s.f, W s.g, W s.h]] w fun e w' => e = .returned (.agg (mix s).vals) ∧ Below w.heap.size w w' := by
  go_enter Try.func65, Try.ntmps65
  go_wp2
  go_loopw [3] (fun r wr => ∃ k : Nat, k ≤ 8 ∧ r = .int .i64 ((k : Int) + 1) ∧ wr = mixW w (mixN s k)) (fun r _ => (9 - intOf r).toNat)
  case atStart => exact ⟨0, by omega, rfl, rfl⟩
  case round =>
    obtain ⟨k, hk, rfl, rfl⟩ := hrel
    have hs : mixN s (k + 1) = mixStep (w32 ((k : Int) + 1)) (mixN s k) := rfl
    have HS := Lib.hid hs
    clear hs
    generalize hm : mixN s k = m at *
    have HM := Lib.hid hm
    clear hm
    obtain ⟨a, b, c, d, e, f, g, h⟩ := m
    rw [mixW_eq]
    by_cases h8 : k < 8
    · have h9 : ((k : Int) + 1) ≤ 8 := by omega
      go_wp2_with (go_at_call 67; refine (quarter_any _ _ _ _ _).mono ?_; rintro e w' ⟨rfl, rfl⟩)
      go_roundw
      case rel => exact ⟨k + 1, by omega, by go_num, by rw [HS.out]; rfl⟩
      case measure => simp [intOf]; omega
    · have h9 : ¬ ((k : Int) + 1) ≤ 8 := by omega
      obtain rfl : k = 8 := by omega
      go_wp2
      refine bodyPost_ret (v := .agg #[W a, W b, W c, W d, W e, W f, W g, W h]) (by simp [results, Try.results16, go_sem]) rfl ⟨?_, ?_⟩
      · rw [show mix s = _ from HM.out]; rfl
      · exact ((Below.refl _ _).alloc (Nat.le_refl _) _).alloc (by simp) _
end Go.Proofs.Ythpjihiikkhcjaa
namespace Go.Proofs.Ythpjihiikkhcjaa
open Go.RowKit Go.Sp
set_option maxHeartbeats 400000 in
theorem turn_any (x : UInt32) (n : Int) (hn : n = 16 ∨ n = 12 ∨ n = 8 ∨ n = 7) (w : World) :
    Calls Try.prog 68 #[W x, .int .i64 n] w fun e w' => e = .returned (W (rotl x n.toNat)) ∧ w' = w := by
  rcases hn with rfl | rfl | rfl | rfl
  all_goals
    go_enter Try.func68, Try.ntmps68
    go_wp2
    go_ret
    exact ⟨rfl, rfl⟩
set_option maxRecDepth 100000 in
set_option maxHeartbeats 2000000 in
theorem rquarter_1 (s : S8) (w : World) :
    Calls Try.prog 66 #[.agg #[W s.a, W s.b, W s.c, W s.d, W s.e, W s.f, W s.g, W s.h], .int .i64 0, .int .i64 1, .int .i64 2, .int .i64 3] w fun e w' => e = .returned (.agg #[W (quarter s.a s.b s.c s.d).1, W (quarter s.a s.b s.c s.d).2.1, W (quarter s.a s.b s.c s.d).2.2.1, W (quarter s.a s.b s.c s.d).2.2.2, W s.e, W s.f, W s.g, W s.h]) ∧ Below w.heap.size w w' := by
  go_enter Try.func66, Try.ntmps66
  go_wp2
  refine wp_region_still_tail 9 (by kernel_rfl) (by kernel_rfl) ?_
  simp only [World.drew_eq, List.take_succ_cons, List.take_zero, List.drop_succ_cons, List.drop_zero]
  repeat still_step
  refine wpStill_nil ?_
  go_wp2
  refine wp_region_still_tail 10 (by kernel_rfl) (by kernel_rfl) ?_
  simp only [World.drew_eq, List.take_succ_cons, List.take_zero, List.drop_succ_cons, List.drop_zero]
  repeat (first | still_step | still_call (turn_any _ _ (by simp) _))
  refine wpStill_nil ?_
  go_wp2
  refine wp_region_still_tail 9 (by kernel_rfl) (by kernel_rfl) ?_
  simp only [World.drew_eq, List.take_succ_cons, List.take_zero, List.drop_succ_cons, List.drop_zero]
  repeat still_step
  refine wpStill_nil ?_
  go_wp2
  refine wp_region_still_tail 10 (by kernel_rfl) (by kernel_rfl) ?_
  simp only [World.drew_eq, List.take_succ_cons, List.take_zero, List.drop_succ_cons, List.drop_zero]
  repeat (first | still_step | still_call (turn_any _ _ (by simp) _))
  refine wpStill_nil ?_
  go_wp2
  refine wp_region_still_tail 9 (by kernel_rfl) (by kernel_rfl) ?_
  simp only [World.drew_eq, List.take_succ_cons, List.take_zero, List.drop_succ_cons, List.drop_zero]
  repeat still_step
  refine wpStill_nil ?_
  go_wp2
  refine wp_region_still_tail 10 (by kernel_rfl) (by kernel_rfl) ?_
  simp only [World.drew_eq, List.take_succ_cons, List.take_zero, List.drop_succ_cons, List.drop_zero]
  repeat (first | still_step | still_call (turn_any _ _ (by simp) _))
  refine wpStill_nil ?_
  go_wp2
  refine wp_region_still_tail 9 (by kernel_rfl) (by kernel_rfl) ?_
  simp only [World.drew_eq, List.take_succ_cons, List.take_zero, List.drop_succ_cons, List.drop_zero]
  repeat still_step
  refine wpStill_nil ?_
  go_wp2
  refine wp_region_still_tail 10 (by kernel_rfl) (by kernel_rfl) ?_
  simp only [World.drew_eq, List.take_succ_cons, List.take_zero, List.drop_succ_cons, List.drop_zero]
  repeat (first | still_step | still_call (turn_any _ _ (by simp) _))
  refine wpStill_nil ?_
  go_wp2
  refine bodyPost_ret (v := .agg #[W (quarter s.a s.b s.c s.d).1, W (quarter s.a s.b s.c s.d).2.1, W (quarter s.a s.b s.c s.d).2.2.1, W (quarter s.a s.b s.c s.d).2.2.2, W s.e, W s.f, W s.g, W s.h]) (by simp [results, Try.results36, go_sem, quarter]) rfl ⟨rfl, ?_⟩
  repeat (first | exact Below.refl _ _ | refine Below.drew ?_ | refine Below.alloc ?_ (by simp) _)
set_option maxRecDepth 100000 in
set_option maxHeartbeats 2000000 in
theorem rquarter_2 (s : S8) (w : World) :
    Calls Try.prog 66 #[.agg #[W s.a, W s.b, W s.c, W s.d, W s.e, W s.f, W s.g, W s.h], .int .i64 4, .int .i64 5, .int .i64 6, .int .i64 7] w fun e w' => e = .returned (.agg #[W s.a, W s.b, W s.c, W s.d, W (quarter s.e s.f s.g s.h).1, W (quarter s.e s.f s.g s.h).2.1, W (quarter s.e s.f s.g s.h).2.2.1, W (quarter s.e s.f s.g s.h).2.2.2]) ∧ Below w.heap.size w w' := by
  go_enter Try.func66, Try.ntmps66
  go_wp2
  refine wp_region_still_tail 9 (by kernel_rfl) (by kernel_rfl) ?_
  simp only [World.drew_eq, List.take_succ_cons, List.take_zero, List.drop_succ_cons, List.drop_zero]
  repeat still_step
  refine wpStill_nil ?_
  go_wp2
  refine wp_region_still_tail 10 (by kernel_rfl) (by kernel_rfl) ?_
  simp only [World.drew_eq, List.take_succ_cons, List.take_zero, List.drop_succ_cons, List.drop_zero]
  repeat (first | still_step | still_call (turn_any _ _ (by simp) _))
  refine wpStill_nil ?_
  go_wp2
  refine wp_region_still_tail 9 (by kernel_rfl) (by kernel_rfl) ?_
  simp only [World.drew_eq, List.take_succ_cons, List.take_zero, List.drop_succ_cons, List.drop_zero]
  repeat still_step
  refine wpStill_nil ?_
  go_wp2
  refine wp_region_still_tail 10 (by kernel_rfl) (by kernel_rfl) ?_
  simp only [World.drew_eq, List.take_succ_cons, List.take_zero, List.drop_succ_cons, List.drop_zero]
  repeat (first | still_step | still_call (turn_any _ _ (by simp) _))
  refine wpStill_nil ?_
  go_wp2
  refine wp_region_still_tail 9 (by kernel_rfl) (by kernel_rfl) ?_
  simp only [World.drew_eq, List.take_succ_cons, List.take_zero, List.drop_succ_cons, List.drop_zero]
  repeat still_step
  refine wpStill_nil ?_
  go_wp2
  refine wp_region_still_tail 10 (by kernel_rfl) (by kernel_rfl) ?_
  simp only [World.drew_eq, List.take_succ_cons, List.take_zero, List.drop_succ_cons, List.drop_zero]
  repeat (first | still_step | still_call (turn_any _ _ (by simp) _))
  refine wpStill_nil ?_
  go_wp2
  refine wp_region_still_tail 9 (by kernel_rfl) (by kernel_rfl) ?_
  simp only [World.drew_eq, List.take_succ_cons, List.take_zero, List.drop_succ_cons, List.drop_zero]
  repeat still_step
  refine wpStill_nil ?_
  go_wp2
  refine wp_region_still_tail 10 (by kernel_rfl) (by kernel_rfl) ?_
  simp only [World.drew_eq, List.take_succ_cons, List.take_zero, List.drop_succ_cons, List.drop_zero]
  repeat (first | still_step | still_call (turn_any _ _ (by simp) _))
  refine wpStill_nil ?_
  go_wp2
  refine bodyPost_ret (v := .agg #[W s.a, W s.b, W s.c, W s.d, W (quarter s.e s.f s.g s.h).1, W (quarter s.e s.f s.g s.h).2.1, W (quarter s.e s.f s.g s.h).2.2.1, W (quarter s.e s.f s.g s.h).2.2.2]) (by simp [results, Try.results36, go_sem, quarter]) rfl ⟨rfl, ?_⟩
  repeat (first | exact Below.refl _ _ | refine Below.drew ?_ | refine Below.alloc ?_ (by simp) _)
set_option maxRecDepth 100000 in
set_option maxHeartbeats 2000000 in
theorem rquarter_3 (s : S8) (w : World) :
    Calls Try.prog 66 #[.agg #[W s.a, W s.b, W s.c, W s.d, W s.e, W s.f, W s.g, W s.h], .int .i64 0, .int .i64 5, .int .i64 2, .int .i64 7] w fun e w' => e = .returned (.agg #[W (quarter s.a s.f s.c s.h).1, W s.b, W (quarter s.a s.f s.c s.h).2.2.1, W s.d, W s.e, W (quarter s.a s.f s.c s.h).2.1, W s.g, W (quarter s.a s.f s.c s.h).2.2.2]) ∧ Below w.heap.size w w' := by
  go_enter Try.func66, Try.ntmps66
  go_wp2
  refine wp_region_still_tail 9 (by kernel_rfl) (by kernel_rfl) ?_
  simp only [World.drew_eq, List.take_succ_cons, List.take_zero, List.drop_succ_cons, List.drop_zero]
  repeat still_step
  refine wpStill_nil ?_
  go_wp2
  refine wp_region_still_tail 10 (by kernel_rfl) (by kernel_rfl) ?_
  simp only [World.drew_eq, List.take_succ_cons, List.take_zero, List.drop_succ_cons, List.drop_zero]
  repeat (first | still_step | still_call (turn_any _ _ (by simp) _))
  refine wpStill_nil ?_
  go_wp2
  refine wp_region_still_tail 9 (by kernel_rfl) (by kernel_rfl) ?_
  simp only [World.drew_eq, List.take_succ_cons, List.take_zero, List.drop_succ_cons, List.drop_zero]
  repeat still_step
  refine wpStill_nil ?_
  go_wp2
  refine wp_region_still_tail 10 (by kernel_rfl) (by kernel_rfl) ?_
  simp only [World.drew_eq, List.take_succ_cons, List.take_zero, List.drop_succ_cons, List.drop_zero]
  repeat (first | still_step | still_call (turn_any _ _ (by simp) _))
  refine wpStill_nil ?_
  go_wp2
  refine wp_region_still_tail 9 (by kernel_rfl) (by kernel_rfl) ?_
  simp only [World.drew_eq, List.take_succ_cons, List.take_zero, List.drop_succ_cons, List.drop_zero]
  repeat still_step
  refine wpStill_nil ?_
  go_wp2
  refine wp_region_still_tail 10 (by kernel_rfl) (by kernel_rfl) ?_
  simp only [World.drew_eq, List.take_succ_cons, List.take_zero, List.drop_succ_cons, List.drop_zero]
  repeat (first | still_step | still_call (turn_any _ _ (by simp) _))
  refine wpStill_nil ?_
  go_wp2
  refine wp_region_still_tail 9 (by kernel_rfl) (by kernel_rfl) ?_
  simp only [World.drew_eq, List.take_succ_cons, List.take_zero, List.drop_succ_cons, List.drop_zero]
  repeat still_step
  refine wpStill_nil ?_
  go_wp2
  refine wp_region_still_tail 10 (by kernel_rfl) (by kernel_rfl) ?_
  simp only [World.drew_eq, List.take_succ_cons, List.take_zero, List.drop_succ_cons, List.drop_zero]
  repeat (first | still_step | still_call (turn_any _ _ (by simp) _))
  refine wpStill_nil ?_
  go_wp2
  refine bodyPost_ret (v := .agg #[W (quarter s.a s.f s.c s.h).1, W s.b, W (quarter s.a s.f s.c s.h).2.2.1, W s.d, W s.e, W (quarter s.a s.f s.c s.h).2.1, W s.g, W (quarter s.a s.f s.c s.h).2.2.2]) (by simp [results, Try.results36, go_sem, quarter]) rfl ⟨rfl, ?_⟩
  repeat (first | exact Below.refl _ _ | refine Below.drew ?_ | refine Below.alloc ?_ (by simp) _)
set_option maxRecDepth 100000 in
set_option maxHeartbeats 2000000 in
theorem rquarter_4 (s : S8) (w : World) :
    Calls Try.prog 66 #[.agg #[W s.a, W s.b, W s.c, W s.d, W s.e, W s.f, W s.g, W s.h], .int .i64 4, .int .i64 1, .int .i64 6, .int .i64 3] w fun e w' => e = .returned (.agg #[W s.a, W (quarter s.e s.b s.g s.d).2.1, W s.c, W (quarter s.e s.b s.g s.d).2.2.2, W (quarter s.e s.b s.g s.d).1, W s.f, W (quarter s.e s.b s.g s.d).2.2.1, W s.h]) ∧ Below w.heap.size w w' := by
  go_enter Try.func66, Try.ntmps66
  go_wp2
  refine wp_region_still_tail 9 (by kernel_rfl) (by kernel_rfl) ?_
  simp only [World.drew_eq, List.take_succ_cons, List.take_zero, List.drop_succ_cons, List.drop_zero]
  repeat still_step
  refine wpStill_nil ?_
  go_wp2
  refine wp_region_still_tail 10 (by kernel_rfl) (by kernel_rfl) ?_
  simp only [World.drew_eq, List.take_succ_cons, List.take_zero, List.drop_succ_cons, List.drop_zero]
  repeat (first | still_step | still_call (turn_any _ _ (by simp) _))
  refine wpStill_nil ?_
  go_wp2
  refine wp_region_still_tail 9 (by kernel_rfl) (by kernel_rfl) ?_
  simp only [World.drew_eq, List.take_succ_cons, List.take_zero, List.drop_succ_cons, List.drop_zero]
  repeat still_step
  refine wpStill_nil ?_
  go_wp2
  refine wp_region_still_tail 10 (by kernel_rfl) (by kernel_rfl) ?_
  simp only [World.drew_eq, List.take_succ_cons, List.take_zero, List.drop_succ_cons, List.drop_zero]
  repeat (first | still_step | still_call (turn_any _ _ (by simp) _))
  refine wpStill_nil ?_
  go_wp2
  refine wp_region_still_tail 9 (by kernel_rfl) (by kernel_rfl) ?_
  simp only [World.drew_eq, List.take_succ_cons, List.take_zero, List.drop_succ_cons, List.drop_zero]
  repeat still_step
  refine wpStill_nil ?_
  go_wp2
  refine wp_region_still_tail 10 (by kernel_rfl) (by kernel_rfl) ?_
  simp only [World.drew_eq, List.take_succ_cons, List.take_zero, List.drop_succ_cons, List.drop_zero]
  repeat (first | still_step | still_call (turn_any _ _ (by simp) _))
  refine wpStill_nil ?_
  go_wp2
  refine wp_region_still_tail 9 (by kernel_rfl) (by kernel_rfl) ?_
  simp only [World.drew_eq, List.take_succ_cons, List.take_zero, List.drop_succ_cons, List.drop_zero]
  repeat still_step
  refine wpStill_nil ?_
  go_wp2
  refine wp_region_still_tail 10 (by kernel_rfl) (by kernel_rfl) ?_
  simp only [World.drew_eq, List.take_succ_cons, List.take_zero, List.drop_succ_cons, List.drop_zero]
  repeat (first | still_step | still_call (turn_any _ _ (by simp) _))
  refine wpStill_nil ?_
  go_wp2
  refine bodyPost_ret (v := .agg #[W s.a, W (quarter s.e s.b s.g s.d).2.1, W s.c, W (quarter s.e s.b s.g s.d).2.2.2, W (quarter s.e s.b s.g s.d).1, W s.f, W (quarter s.e s.b s.g s.d).2.2.1, W s.h]) (by simp [results, Try.results36, go_sem, quarter]) rfl ⟨rfl, ?_⟩
  repeat (first | exact Below.refl _ _ | refine Below.drew ?_ | refine Below.alloc ?_ (by simp) _)
end Go.Proofs.Ythpjihiikkhcjaa
