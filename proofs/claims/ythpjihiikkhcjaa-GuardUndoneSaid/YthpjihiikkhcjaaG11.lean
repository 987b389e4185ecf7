/-
  A part of the proofs of this seat: laws of the walk, or contracts of the functions that the statements reach. No conditions but those that each theorem names.
-/
import Derived.Test.YthpjihiikkhcjaaG10
namespace Go.Sp
open Go.RowKit
def liveM (nm : List UInt8) (i c e r : Int) (nm' : List UInt8) (v ch now era : Int) : Bool := nm == nm' && c == ch && r == era && decide (now < e) && decide (v ≤ i)
end Go.Sp
namespace Go.Proofs.Ythpjihiikkhcjaa
open Go.RowKit Go.Sp
set_option maxRecDepth 100000 in
set_option maxHeartbeats 4000000 in
theorem live_any (nm : List UInt8) (i c e r p : Int) (nm' : List UInt8) (t a v ch now era : Int) (w : World) :
    Calls Try.prog 25 #[.agg (tokV nm i c e r), .agg (recV p ⟨nm'.toArray⟩ t a v), .int .i64 ch, .int .i64 now, .int .i64 era] w fun e' w' => e' = .returned (.bool (liveM nm i c e r nm' v ch now era)) ∧ Below w.heap.size w w' := by
  have hb : Below w.heap.size w ((w.alloc (.cells (tokV nm i c e r) 35)).alloc (.cells (recV p ⟨nm'.toArray⟩ t a v) 28)) := ((Below.refl _ _).alloc (Nat.le_refl _) _).alloc (by simp) _
  have hT : Blk ((w.alloc (.cells (tokV nm i c e r) 35)).alloc (.cells (recV p ⟨nm'.toArray⟩ t a v) 28)) w.heap.size (tokV nm i c e r) 35 := (Blk.new w _ 35).alloc _
  have hR : Blk ((w.alloc (.cells (tokV nm i c e r) 35)).alloc (.cells (recV p ⟨nm'.toArray⟩ t a v) 28)) (w.heap.size + 1) (recV p ⟨nm'.toArray⟩ t a v) 28 := Blk.newAt (by simp) _ 28
  obtain ⟨w1, hw1⟩ : ∃ u, u = ((w.alloc (.cells (tokV nm i c e r) 35)).alloc (.cells (recV p ⟨nm'.toArray⟩ t a v) 28)) := ⟨_, rfl⟩
  rw [← hw1] at hb hT hR
  have HW := Lib.hid hw1
  have hwl : (w.alloc (.cells #[.string ⟨nm.toArray⟩, .int .i64 i, .int .i64 c, .int .i64 e, .int .i64 r] 35)).alloc (.cells #[.int .i64 p, .string ⟨nm'.toArray⟩, .slice none 0 0, .int .u32 0, .int .u32 0, .int .u32 0, .int .u32 0, .int .u32 0, .int .u32 0, .int .u32 0, .int .u32 0, .int .u32 0, .int .u32 0, .int .u32 0, .int .u32 0, .int .u32 0, .int .u32 0, .int .u32 0, .int .u32 0, .slice none 0 0, .int .i64 t, .int .i64 a, .int .i64 v] 28) = w1 := hw1.symm
  have HWL := Lib.hid hwl
  clear hw1 hwl HW
  have t0 : w1.cell? ⟨w.heap.size, 0, none⟩ = some (.string ⟨nm.toArray⟩) := by rw [hT.cell]; rfl
  have t1 : w1.cell? ⟨w.heap.size, 1, none⟩ = some (.int .i64 i) := by rw [hT.cell]; rfl
  have t2 : w1.cell? ⟨w.heap.size, 2, none⟩ = some (.int .i64 c) := by rw [hT.cell]; rfl
  have t3 : w1.cell? ⟨w.heap.size, 3, none⟩ = some (.int .i64 e) := by rw [hT.cell]; rfl
  have t4 : w1.cell? ⟨w.heap.size, 4, none⟩ = some (.int .i64 r) := by rw [hT.cell]; rfl
  have r1 : w1.cell? ⟨w.heap.size + 1, 1, none⟩ = some (.string ⟨nm'.toArray⟩) := by rw [hR.cell]; rfl
  have r8 : w1.cell? ⟨w.heap.size + 1, 22, none⟩ = some (.int .i64 v) := by rw [hR.cell]; rfl
  obtain ⟨L, hL⟩ : ∃ L, L = liveM nm i c e r nm' v ch now era := ⟨_, rfl⟩
  rw [← hL]
  have HL := Lib.hid hL
  clear hL
  show Calls Try.prog 25 #[.agg #[_, _, _, _, _], .agg #[_, _, _, _, _, _, _, _, _, _, _, _, _, _, _, _, _, _, _, _, _, _, _], _, _, _] w _
  go_enter Try.func25, Try.ntmps25
  go_wp2_with (refine (show wpList _ _ _ (⟨some 11, _, _, _, _, _⟩ :: _) _ _ from stop_here ?_))
  rw [HWL.out]
  refine Stop.go ?_
  clear HWL hT hR
  go_wp2
  all_goals
    go_ret
    refine ⟨congrArg (fun b => Ending.returned (Value.bool b)) ?_, hb⟩
    rw [HL.out]
    simp [liveM, *]
    try (intros; omega)
set_option maxRecDepth 100000 in
set_option maxHeartbeats 4000000 in
theorem rlive_any (nm : List UInt8) (i c e r p : Int) (nm' : List UInt8) (t a v ch now era : Int) (w : World) :
    Calls Try.prog 27 #[.agg (tokV nm i c e r), .agg (recV p ⟨nm'.toArray⟩ t a v), .int .i64 ch, .int .i64 now, .int .i64 era] w fun e' w' => e' = .returned (.bool (liveM nm i c e r nm' v ch now era)) ∧ Below w.heap.size w w' := by
  have hb : Below w.heap.size w ((w.alloc (.cells (tokV nm i c e r) 35)).alloc (.cells (recV p ⟨nm'.toArray⟩ t a v) 28)) := ((Below.refl _ _).alloc (Nat.le_refl _) _).alloc (by simp) _
  have hT : Blk ((w.alloc (.cells (tokV nm i c e r) 35)).alloc (.cells (recV p ⟨nm'.toArray⟩ t a v) 28)) w.heap.size (tokV nm i c e r) 35 := (Blk.new w _ 35).alloc _
  have hR : Blk ((w.alloc (.cells (tokV nm i c e r) 35)).alloc (.cells (recV p ⟨nm'.toArray⟩ t a v) 28)) (w.heap.size + 1) (recV p ⟨nm'.toArray⟩ t a v) 28 := Blk.newAt (by simp) _ 28
  obtain ⟨w1, hw1⟩ : ∃ u, u = ((w.alloc (.cells (tokV nm i c e r) 35)).alloc (.cells (recV p ⟨nm'.toArray⟩ t a v) 28)) := ⟨_, rfl⟩
  rw [← hw1] at hb hT hR
  have HW := Lib.hid hw1
  have hwl : (w.alloc (.cells #[.string ⟨nm.toArray⟩, .int .i64 i, .int .i64 c, .int .i64 e, .int .i64 r] 35)).alloc (.cells #[.int .i64 p, .string ⟨nm'.toArray⟩, .slice none 0 0, .int .u32 0, .int .u32 0, .int .u32 0, .int .u32 0, .int .u32 0, .int .u32 0, .int .u32 0, .int .u32 0, .int .u32 0, .int .u32 0, .int .u32 0, .int .u32 0, .int .u32 0, .int .u32 0, .int .u32 0, .int .u32 0, .slice none 0 0, .int .i64 t, .int .i64 a, .int .i64 v] 28) = w1 := hw1.symm
  have HWL := Lib.hid hwl
  clear hw1 hwl HW
  have t0 : w1.cell? ⟨w.heap.size, 0, none⟩ = some (.string ⟨nm.toArray⟩) := by rw [hT.cell]; rfl
  have t1 : w1.cell? ⟨w.heap.size, 1, none⟩ = some (.int .i64 i) := by rw [hT.cell]; rfl
  have t2 : w1.cell? ⟨w.heap.size, 2, none⟩ = some (.int .i64 c) := by rw [hT.cell]; rfl
  have t3 : w1.cell? ⟨w.heap.size, 3, none⟩ = some (.int .i64 e) := by rw [hT.cell]; rfl
  have t4 : w1.cell? ⟨w.heap.size, 4, none⟩ = some (.int .i64 r) := by rw [hT.cell]; rfl
  have r1 : w1.cell? ⟨w.heap.size + 1, 1, none⟩ = some (.string ⟨nm'.toArray⟩) := by rw [hR.cell]; rfl
  have r8 : w1.cell? ⟨w.heap.size + 1, 22, none⟩ = some (.int .i64 v) := by rw [hR.cell]; rfl
  obtain ⟨L, hL⟩ : ∃ L, L = liveM nm i c e r nm' v ch now era := ⟨_, rfl⟩
  rw [← hL]
  have HL := Lib.hid hL
  clear hL
  show Calls Try.prog 27 #[.agg #[_, _, _, _, _], .agg #[_, _, _, _, _, _, _, _, _, _, _, _, _, _, _, _, _, _, _, _, _, _, _], _, _, _] w _
  go_enter Try.func27, Try.ntmps27
  go_wp2_with (refine (show wpList _ _ _ (⟨some 11, _, _, _, _, _⟩ :: _) _ _ from stop_here ?_))
  rw [HWL.out]
  refine Stop.go ?_
  clear HWL hT hR
  go_wp2
  all_goals
    go_ret
    refine ⟨congrArg (fun b => Ending.returned (Value.bool b)) ?_, hb⟩
    rw [HL.out]
    simp [liveM, *]
    try (intros; omega)
end Go.Proofs.Ythpjihiikkhcjaa
