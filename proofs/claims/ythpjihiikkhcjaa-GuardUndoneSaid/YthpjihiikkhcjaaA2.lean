/-
  A part of the proofs of this seat: laws of the walk, or contracts of the functions that the statements reach. No conditions but those that each theorem names.
-/
import Derived.Test.YthpjihiikkhcjaaA
import Derived.StillTailTactics
import Derived.BigRegion
namespace Go.Proofs.Ythpjihiikkhcjaa
open Go.RowKit Go.Sp
set_option maxHeartbeats 400000 in
theorem turn_any (x : UInt32) (n : Int) (hn : n = 16 ∨ n = 12 ∨ n = 8 ∨ n = 7) (w : World) :
    Calls Try.prog 68 #[W x, .int .i64 n] w fun e w' => e = .returned (W (rotl x n.toNat)) ∧ w' = w := by
  rcases hn with rfl | rfl | rfl | rfl
  all_goals
    go_enter Try.func68, Try.ntmps68
    go_wp2
    go_ret
    exact ⟨rfl, rfl⟩
set_option maxRecDepth 100000 in
set_option maxHeartbeats 2000000 in
theorem rquarter_1 (s : S8) (w : World) :
    Calls Try.prog 66 #[.agg #[W s.a, W s.b, W s.c, W s.d, W s.e, W s.f, W s.g, W s.h], .int .i64 0, .int .i64 1, .int .i64 2, .int .i64 3] w fun e w' => e = .returned (.agg #[W (quarter s.a s.b s.c s.d).1, W (quarter s.a s.b s.c s.d).2.1, W (quarter s.a s.b s.c s.d).2.2.1, W (quarter s.a s.b s.c s.d).2.2.2, W s.e, W s.f, W s.g, W s.h]) ∧ Below w.heap.size w w' := by
  go_enter Try.func66, Try.ntmps66
  go_wp2
  refine wp_region_still_tail 9 (by kernel_rfl) (by kernel_rfl) ?_
  simp only [World.drew_eq, List.take_succ_cons, List.take_zero, List.drop_succ_cons, List.drop_zero]
  repeat still_step
  refine wpStill_nil ?_
  go_wp2
  refine wp_region_still_tail 10 (by kernel_rfl) (by kernel_rfl) ?_
  simp only [World.drew_eq, List.take_succ_cons, List.take_zero, List.drop_succ_cons, List.drop_zero]
  repeat (first | still_step | still_call (turn_any _ _ (by simp) _))
  refine wpStill_nil ?_
  go_wp2
  refine wp_region_still_tail 9 (by kernel_rfl) (by kernel_rfl) ?_
  simp only [World.drew_eq, List.take_succ_cons, List.take_zero, List.drop_succ_cons, List.drop_zero]
  repeat still_step
  refine wpStill_nil ?_
  go_wp2
  refine wp_region_still_tail 10 (by kernel_rfl) (by kernel_rfl) ?_
  simp only [World.drew_eq, List.take_succ_cons, List.take_zero, List.drop_succ_cons, List.drop_zero]
  repeat (first | still_step | still_call (turn_any _ _ (by simp) _))
  refine wpStill_nil ?_
  go_wp2
  refine wp_region_still_tail 9 (by kernel_rfl) (by kernel_rfl) ?_
  simp only [World.drew_eq, List.take_succ_cons, List.take_zero, List.drop_succ_cons, List.drop_zero]
  repeat still_step
  refine wpStill_nil ?_
  go_wp2
  refine wp_region_still_tail 10 (by kernel_rfl) (by kernel_rfl) ?_
  simp only [World.drew_eq, List.take_succ_cons, List.take_zero, List.drop_succ_cons, List.drop_zero]
  repeat (first | still_step | still_call (turn_any _ _ (by simp) _))
  refine wpStill_nil ?_
  go_wp2
  refine wp_region_still_tail 9 (by kernel_rfl) (by kernel_rfl) ?_
  simp only [World.drew_eq, List.take_succ_cons, List.take_zero, List.drop_succ_cons, List.drop_zero]
  repeat still_step
  refine wpStill_nil ?_
  go_wp2
  refine wp_region_still_tail 10 (by kernel_rfl) (by kernel_rfl) ?_
  simp only [World.drew_eq, List.take_succ_cons, List.take_zero, List.drop_succ_cons, List.drop_zero]
  repeat (first | still_step | still_call (turn_any _ _ (by simp) _))
  refine wpStill_nil ?_
  go_wp2
  refine bodyPost_ret (v := .agg #[W (quarter s.a s.b s.c s.d).1, W (quarter s.a s.b s.c s.d).2.1, W (quarter s.a s.b s.c s.d).2.2.1, W (quarter s.a s.b s.c s.d).2.2.2, W s.e, W s.f, W s.g, W s.h]) (by simp [results, Try.results36, go_sem, quarter]) rfl ⟨rfl, ?_⟩
  repeat (first | exact Below.refl _ _ | refine Below.drew ?_ | refine Below.alloc ?_ (by simp) _)
set_option maxRecDepth 100000 in
set_option maxHeartbeats 2000000 in
theorem rquarter_2 (s : S8) (w : World) :
    Calls Try.prog 66 #[.agg #[W s.a, W s.b, W s.c, W s.d, W s.e, W s.f, W s.g, W s.h], .int .i64 4, .int .i64 5, .int .i64 6, .int .i64 7] w fun e w' => e = .returned (.agg #[W s.a, W s.b, W s.c, W s.d, W (quarter s.e s.f s.g s.h).1, W (quarter s.e s.f s.g s.h).2.1, W (quarter s.e s.f s.g s.h).2.2.1, W (quarter s.e s.f s.g s.h).2.2.2]) ∧ Below w.heap.size w w' := by
  go_enter Try.func66, Try.ntmps66
  go_wp2
  refine wp_region_still_tail 9 (by kernel_rfl) (by kernel_rfl) ?_
  simp only [World.drew_eq, List.take_succ_cons, List.take_zero, List.drop_succ_cons, List.drop_zero]
  repeat still_step
  refine wpStill_nil ?_
  go_wp2
  refine wp_region_still_tail 10 (by kernel_rfl) (by kernel_rfl) ?_
  simp only [World.drew_eq, List.take_succ_cons, List.take_zero, List.drop_succ_cons, List.drop_zero]
  repeat (first | still_step | still_call (turn_any _ _ (by simp) _))
  refine wpStill_nil ?_
  go_wp2
  refine wp_region_still_tail 9 (by kernel_rfl) (by kernel_rfl) ?_
  simp only [World.drew_eq, List.take_succ_cons, List.take_zero, List.drop_succ_cons, List.drop_zero]
  repeat still_step
  refine wpStill_nil ?_
  go_wp2
  refine wp_region_still_tail 10 (by kernel_rfl) (by kernel_rfl) ?_
  simp only [World.drew_eq, List.take_succ_cons, List.take_zero, List.drop_succ_cons, List.drop_zero]
  repeat (first | still_step | still_call (turn_any _ _ (by simp) _))
  refine wpStill_nil ?_
  go_wp2
  refine wp_region_still_tail 9 (by kernel_rfl) (by kernel_rfl) ?_
  simp only [World.drew_eq, List.take_succ_cons, List.take_zero, List.drop_succ_cons, List.drop_zero]
  repeat still_step
  refine wpStill_nil ?_
  go_wp2
  refine wp_region_still_tail 10 (by kernel_rfl) (by kernel_rfl) ?_
  simp only [World.drew_eq, List.take_succ_cons, List.take_zero, List.drop_succ_cons, List.drop_zero]
  repeat (first | still_step | still_call (turn_any _ _ (by simp) _))
  refine wpStill_nil ?_
  go_wp2
  refine wp_region_still_tail 9 (by kernel_rfl) (by kernel_rfl) ?_
  simp only [World.drew_eq, List.take_succ_cons, List.take_zero, List.drop_succ_cons, List.drop_zero]
  repeat still_step
  refine wpStill_nil ?_
  go_wp2
  refine wp_region_still_tail 10 (by kernel_rfl) (by kernel_rfl) ?_
  simp only [World.drew_eq, List.take_succ_cons, List.take_zero, List.drop_succ_cons, List.drop_zero]
  repeat (first | still_step | still_call (turn_any _ _ (by simp) _))
  refine wpStill_nil ?_
  go_wp2
  refine bodyPost_ret (v := .agg #[W s.a, W s.b, W s.c, W s.d, W (quarter s.e s.f s.g s.h).1, W (quarter s.e s.f s.g s.h).2.1, W (quarter s.e s.f s.g s.h).2.2.1, W (quarter s.e s.f s.g s.h).2.2.2]) (by simp [results, Try.results36, go_sem, quarter]) rfl ⟨rfl, ?_⟩
  repeat (first | exact Below.refl _ _ | refine Below.drew ?_ | refine Below.alloc ?_ (by simp) _)
set_option maxRecDepth 100000 in
set_option maxHeartbeats 2000000 in
theorem rquarter_3 (s : S8) (w : World) :
    Calls Try.prog 66 #[.agg #[W s.a, W s.b, W s.c, W s.d, W s.e, W s.f, W s.g, W s.h], .int .i64 0, .int .i64 5, .int .i64 2, .int .i64 7] w fun e w' => e = .returned (.agg #[W (quarter s.a s.f s.c s.h).1, W s.b, W (quarter s.a s.f s.c s.h).2.2.1, W s.d, W s.e, W (quarter s.a s.f s.c s.h).2.1, W s.g, W (quarter s.a s.f s.c s.h).2.2.2]) ∧ Below w.heap.size w w' := by
  go_enter Try.func66, Try.ntmps66
  go_wp2
  refine wp_region_still_tail 9 (by kernel_rfl) (by kernel_rfl) ?_
  simp only [World.drew_eq, List.take_succ_cons, List.take_zero, List.drop_succ_cons, List.drop_zero]
  repeat still_step
  refine wpStill_nil ?_
  go_wp2
  refine wp_region_still_tail 10 (by kernel_rfl) (by kernel_rfl) ?_
  simp only [World.drew_eq, List.take_succ_cons, List.take_zero, List.drop_succ_cons, List.drop_zero]
  repeat (first | still_step | still_call (turn_any _ _ (by simp) _))
  refine wpStill_nil ?_
  go_wp2
  refine wp_region_still_tail 9 (by kernel_rfl) (by kernel_rfl) ?_
  simp only [World.drew_eq, List.take_succ_cons, List.take_zero, List.drop_succ_cons, List.drop_zero]
  repeat still_step
  refine wpStill_nil ?_
  go_wp2
  refine wp_region_still_tail 10 (by kernel_rfl) (by kernel_rfl) ?_
  simp only [World.drew_eq, List.take_succ_cons, List.take_zero, List.drop_succ_cons, List.drop_zero]
  repeat (first | still_step | still_call (turn_any _ _ (by simp) _))
  refine wpStill_nil ?_
  go_wp2
  refine wp_region_still_tail 9 (by kernel_rfl) (by kernel_rfl) ?_
  simp only [World.drew_eq, List.take_succ_cons, List.take_zero, List.drop_succ_cons, List.drop_zero]
  repeat still_step
  refine wpStill_nil ?_
  go_wp2
  refine wp_region_still_tail 10 (by kernel_rfl) (by kernel_rfl) ?_
  simp only [World.drew_eq, List.take_succ_cons, List.take_zero, List.drop_succ_cons, List.drop_zero]
  repeat (first | still_step | still_call (turn_any _ _ (by simp) _))
  refine wpStill_nil ?_
  go_wp2
  refine wp_region_still_tail 9 (by kernel_rfl) (by kernel_rfl) ?_
  simp only [World.drew_eq, List.take_succ_cons, List.take_zero, List.drop_succ_cons, List.drop_zero]
  repeat still_step
  refine wpStill_nil ?_
  go_wp2
  refine wp_region_still_tail 10 (by kernel_rfl) (by kernel_rfl) ?_
  simp only [World.drew_eq, List.take_succ_cons, List.take_zero, List.drop_succ_cons, List.drop_zero]
  repeat (first | still_step | still_call (turn_any _ _ (by simp) _))
  refine wpStill_nil ?_
  go_wp2
  refine bodyPost_ret (v := .agg #[W (quarter s.a s.f s.c s.h).1, W s.b, W (quarter s.a s.f s.c s.h).2.2.1, W s.d, W s.e, W (quarter s.a s.f s.c s.h).2.1, W s.g, W (quarter s.a s.f s.c s.h).2.2.2]) (by simp [results, Try.results36, go_sem, quarter]) rfl ⟨rfl, ?_⟩
  repeat (first | exact Below.refl _ _ | refine Below.drew ?_ | refine Below.alloc ?_ (by simp) _)
set_option maxRecDepth 100000 in
set_option maxHeartbeats 2000000 in
theorem rquarter_4 (s : S8) (w : World) :
    Calls Try.prog 66 #[.agg #[W s.a, W s.b, W s.c, W s.d, W s.e, W s.f, W s.g, W s.h], .int .i64 4, .int .i64 1, .int .i64 6, .int .i64 3] w fun e w' => e = .returned (.agg #[W s.a, W (quarter s.e s.b s.g s.d).2.1, W s.c, W (quarter s.e s.b s.g s.d).2.2.2, W (quarter s.e s.b s.g s.d).1, W s.f, W (quarter s.e s.b s.g s.d).2.2.1, W s.h]) ∧ Below w.heap.size w w' := by
  go_enter Try.func66, Try.ntmps66
  go_wp2
  refine wp_region_still_tail 9 (by kernel_rfl) (by kernel_rfl) ?_
  simp only [World.drew_eq, List.take_succ_cons, List.take_zero, List.drop_succ_cons, List.drop_zero]
  repeat still_step
  refine wpStill_nil ?_
  go_wp2
  refine wp_region_still_tail 10 (by kernel_rfl) (by kernel_rfl) ?_
  simp only [World.drew_eq, List.take_succ_cons, List.take_zero, List.drop_succ_cons, List.drop_zero]
  repeat (first | still_step | still_call (turn_any _ _ (by simp) _))
  refine wpStill_nil ?_
  go_wp2
  refine wp_region_still_tail 9 (by kernel_rfl) (by kernel_rfl) ?_
  simp only [World.drew_eq, List.take_succ_cons, List.take_zero, List.drop_succ_cons, List.drop_zero]
  repeat still_step
  refine wpStill_nil ?_
  go_wp2
  refine wp_region_still_tail 10 (by kernel_rfl) (by kernel_rfl) ?_
  simp only [World.drew_eq, List.take_succ_cons, List.take_zero, List.drop_succ_cons, List.drop_zero]
  repeat (first | still_step | still_call (turn_any _ _ (by simp) _))
  refine wpStill_nil ?_
  go_wp2
  refine wp_region_still_tail 9 (by kernel_rfl) (by kernel_rfl) ?_
  simp only [World.drew_eq, List.take_succ_cons, List.take_zero, List.drop_succ_cons, List.drop_zero]
  repeat still_step
  refine wpStill_nil ?_
  go_wp2
  refine wp_region_still_tail 10 (by kernel_rfl) (by kernel_rfl) ?_
  simp only [World.drew_eq, List.take_succ_cons, List.take_zero, List.drop_succ_cons, List.drop_zero]
  repeat (first | still_step | still_call (turn_any _ _ (by simp) _))
  refine wpStill_nil ?_
  go_wp2
  refine wp_region_still_tail 9 (by kernel_rfl) (by kernel_rfl) ?_
  simp only [World.drew_eq, List.take_succ_cons, List.take_zero, List.drop_succ_cons, List.drop_zero]
  repeat still_step
  refine wpStill_nil ?_
  go_wp2
  refine wp_region_still_tail 10 (by kernel_rfl) (by kernel_rfl) ?_
  simp only [World.drew_eq, List.take_succ_cons, List.take_zero, List.drop_succ_cons, List.drop_zero]
  repeat (first | still_step | still_call (turn_any _ _ (by simp) _))
  refine wpStill_nil ?_
  go_wp2
  refine bodyPost_ret (v := .agg #[W s.a, W (quarter s.e s.b s.g s.d).2.1, W s.c, W (quarter s.e s.b s.g s.d).2.2.2, W (quarter s.e s.b s.g s.d).1, W s.f, W (quarter s.e s.b s.g s.d).2.2.1, W s.h]) (by simp [results, Try.results36, go_sem, quarter]) rfl ⟨rfl, ?_⟩
  repeat (first | exact Below.refl _ _ | refine Below.drew ?_ | refine Below.alloc ?_ (by simp) _)
end Go.Proofs.Ythpjihiikkhcjaa
