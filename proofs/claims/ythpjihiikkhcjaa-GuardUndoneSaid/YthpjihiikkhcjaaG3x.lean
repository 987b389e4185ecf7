/-
  A part of the proofs of this seat: laws of the walk, or contracts of the functions that the statements reach. No conditions but those that each theorem names.
-/
import Derived.Test.YthpjihiikkhcjaaG2x
import Derived.Laws.ResultCell
namespace Go.Sp
open Go.RowKit
theorem tokM_bounds (t a now : Int) (ht : 0 ≤ t ∧ t ≤ 5) : 0 ≤ (tokM t a now).1 ∧ (tokM t a now).1 ≤ 5 := by
  unfold tokM
  split
  · exact ht
  · split <;> simp only <;> omega
/-- What is charged. -/
def chM (p : Int) (nm : ByteArray) (t a v now : Int) : Array Value × Bool :=
  if (tokM t a now).1 < 1 then (recV 0 ⟨#[]⟩ 0 0 0, false) else (recV p nm ((tokM t a now).1 - 1) (tokM t a now).2 v, true)
/-- What is refunded. -/
def rfM (p : Int) (nm : ByteArray) (t a v now : Int) : Array Value := recV p nm (min ((tokM t a now).1 + 1) 5) (tokM t a now).2 v
theorem results_row_tmp {P : Program} {fn : Func} {p u : Tmp} {ty : TypeId} (h : fn.results = #[.cell p ty, .tmp u]) (tmps : Array Value) (w : World) (g : Nat) (t : TypeId) (cs : Array Value) (fr : Nat × Nat) (d : TypeDesc)
    (hp : tmps.getD p undef = .pointer (some ⟨g, 0, none⟩)) (hg : w.heap[g]? = some (.cells cs t fr))
    (hu : P.underlying ty = some d) (hd : (match d with | .struct _ | .array _ _ => true | _ => false) = true) (hi : (P.info? ty).map (·.size) = some cs.size) :
    (results fn tmps).run P w = .ok (.tuple #[.agg cs, tmps.getD u undef]) w := by
  rw [results_cell_tmp h, hp]
  simp [asAddr, run_loadVar_row w g t ty cs fr d hg hu hd hi]
end Go.Sp
namespace Go.Proofs.Ythpjihiikkhcjaa
open Go.RowKit Go.Sp
set_option maxRecDepth 100000 in
set_option maxHeartbeats 2000000 in
theorem charge_any (p : Int) (nm : ByteArray) (t a v now : Int) (w : World) (ht : 0 ≤ t ∧ t ≤ 5) (ha : 0 ≤ a ∧ a ≤ 1000000000000) (hn : -9223372036854775808 ≤ now ∧ now ≤ 9223372036854775807) :
    Calls Try.prog 28 #[.agg (recV p nm t a v), .int .i64 now] w fun e w' => e = .returned (.tuple #[.agg (chM p nm t a v now).1, .bool (chM p nm t a v now).2]) ∧ Below w.heap.size w w' := by
  have hrv : recV p nm t a v = #[.int .i64 p, .string nm, .slice none 0 0, .int .u32 0, .int .u32 0, .int .u32 0, .int .u32 0, .int .u32 0, .int .u32 0, .int .u32 0, .int .u32 0, .int .u32 0, .int .u32 0, .int .u32 0, .int .u32 0, .int .u32 0, .int .u32 0, .int .u32 0, .int .u32 0, .slice none 0 0, .int .i64 t, .int .i64 a, .int .i64 v] := rfl
  have hrz : recV 0 ⟨#[]⟩ 0 0 0 = #[.int .i64 0, .string ⟨#[]⟩, .slice none 0 0, .int .u32 0, .int .u32 0, .int .u32 0, .int .u32 0, .int .u32 0, .int .u32 0, .int .u32 0, .int .u32 0, .int .u32 0, .int .u32 0, .int .u32 0, .int .u32 0, .int .u32 0, .int .u32 0, .int .u32 0, .int .u32 0, .slice none 0 0, .int .i64 0, .int .i64 0, .int .i64 0] := rfl
  have hR2 : Blk ((w.alloc (.cells (recV p nm t a v) 28)).alloc (.cells (recV 0 ⟨#[]⟩ 0 0 0) 28)) w.heap.size (recV p nm t a v) 28 := (Blk.new w _ 28).alloc _
  have hR4 : Blk ((w.alloc (.cells (recV p nm t a v) 28)).alloc (.cells (recV 0 ⟨#[]⟩ 0 0 0) 28)) (w.heap.size + 1) (recV 0 ⟨#[]⟩ 0 0 0) 28 := Blk.newAt (by simp) _ 28
  have hbw : Below w.heap.size w ((w.alloc (.cells (recV p nm t a v) 28)).alloc (.cells (recV 0 ⟨#[]⟩ 0 0 0) 28)) := ((Below.refl _ _).alloc (Nat.le_refl _) _).alloc (by simp) _
  obtain ⟨w1, hw1⟩ : ∃ u, u = (w.alloc (.cells (recV p nm t a v) 28)).alloc (.cells (recV 0 ⟨#[]⟩ 0 0 0) 28) := ⟨_, rfl⟩
  rw [← hw1] at hR2 hR4 hbw
  rw [hrv, hrz] at hw1
  rw [hrv]
  have HW := Lib.hid hw1
  have HRV := Lib.hid hrv
  have HRZ := Lib.hid hrz
  clear hw1 hrv hrz
  obtain ⟨C, hC⟩ : ∃ C, C = chM p nm t a v now := ⟨_, rfl⟩
  rw [← hC]
  have HC := Lib.hid hC
  clear hC
  go_enter Try.func28, Try.ntmps28
  go_wp2_with (refine (show wpList _ _ _ (⟨some 9, .load 28 (.tmp 2), _, _, _, _⟩ :: _) _ _ from stop_here ?_))
  rw [← HW.out]
  clear HW
  refine Stop.go (wpList_val rfl (r_loadBlk rfl hR2 Try.underlying28 rfl (size28 _ _ _ _ _)) ?_)
  go_wp2_with fail
  refine (tokens_any p nm t a v now _ ht ha hn).mono ?_
  rintro _ w2 ⟨rfl, hb2⟩
  have hR22 := hR2.ext hb2
  have hR42 := hR4.ext hb2
  have hbw2 := hbw.trans (hb2.mono hbw.size)
  have hl4 := hR42.lt
  have hkb := tokM_bounds t a now ht
  clear hb2 hR2 hR4 hbw
  obtain ⟨k, hk⟩ : ∃ k, k = (tokM t a now).1 := ⟨_, rfl⟩
  obtain ⟨at_, hat⟩ : ∃ k, k = (tokM t a now).2 := ⟨_, rfl⟩
  rw [← hk, ← hat]
  rw [← hk] at hkb
  have HKT := Lib.hid hk
  have HAT := Lib.hid hat
  clear hk hat
  by_cases hk1 : k < 1
  · have HC1 : Hid (C = (recV 0 ⟨#[]⟩ 0 0 0, false)) := Lib.hid (by rw [HC.out]; unfold chM; rw [← HKT.out, if_pos hk1])
    go_wp2_with (refine (show wpList _ _ _ (⟨none, .store 28 (.tmp 4) (.tmp 16), _, _, _, _⟩ :: _) _ _ from stop_here ?_))
    refine Stop.go (wpList_store_blk rfl rfl rfl rfl hR42 rfl (size28 _ _ _ _ _) (by simp [Value.oneCell']) ?_)
    intro wz hRz hOz
    have hbwz := hbw2.trans (hOz.below (by omega) hbw2.size)
    clear hOz
    go_wp2
    exact bodyPost_ret (results_row_tmp rfl _ _ (w.heap.size + 1) 28 _ (0, 0) _ rfl hRz Try.underlying28 rfl (size28 _ _ _ _ _)) rfl ⟨by rw [HC1.out]; rfl, hbwz⟩
  · have HC1 : Hid (C = (recV p nm (k - 1) at_ v, true)) := Lib.hid (by rw [HC.out]; unfold chM; rw [← HKT.out, ← HAT.out, if_neg hk1])
    go_wp2_with (refine (show wpList _ _ _ (⟨some 17, .load 28 (.tmp 2), _, _, _, _⟩ :: _) _ _ from stop_here ?_))
    refine Stop.go (wpList_val rfl (r_loadBlk rfl hR22 Try.underlying28 rfl (size28 _ _ _ _ _)) ?_)
    go_wp2_with fail
    refine (with_any p nm t a v (k - 1) at_ _).mono ?_
    rintro _ w3 ⟨rfl, hb3⟩
    rw [show max 0 (min (k - 1) 5) = k - 1 by omega]
    have hR43 := hR42.ext hb3
    have hbw3 := hbw2.trans (hb3.mono hbw2.size)
    clear hb3 hR42 hR22 hbw2
    go_wp2_with (refine (show wpList _ _ _ (⟨none, .store 28 (.tmp 4) (.tmp 21), _, _, _, _⟩ :: _) _ _ from stop_here ?_))
    refine Stop.go (wpList_store_blk rfl rfl rfl rfl hR43 rfl (size28 _ _ _ _ _) (by simp [recV, Value.oneCell']) ?_)
    intro wz hRz hOz
    have hbwz := hbw3.trans (hOz.below (by omega) hbw3.size)
    clear hOz
    go_wp2
    exact bodyPost_ret (results_row_tmp rfl _ _ (w.heap.size + 1) 28 _ (0, 0) _ rfl hRz Try.underlying28 rfl (size28 _ _ _ _ _)) rfl ⟨by rw [HC1.out]; rfl, hbwz⟩
set_option maxRecDepth 100000 in
set_option maxHeartbeats 2000000 in
theorem refund_any (p : Int) (nm : ByteArray) (t a v now : Int) (w : World) (ht : 0 ≤ t ∧ t ≤ 5) (ha : 0 ≤ a ∧ a ≤ 1000000000000) (hn : -9223372036854775808 ≤ now ∧ now ≤ 9223372036854775807) :
    Calls Try.prog 33 #[.agg (recV p nm t a v), .int .i64 now] w fun e w' => e = .returned (.agg (rfM p nm t a v now)) ∧ Below w.heap.size w w' := by
  have hrv : recV p nm t a v = #[.int .i64 p, .string nm, .slice none 0 0, .int .u32 0, .int .u32 0, .int .u32 0, .int .u32 0, .int .u32 0, .int .u32 0, .int .u32 0, .int .u32 0, .int .u32 0, .int .u32 0, .int .u32 0, .int .u32 0, .int .u32 0, .int .u32 0, .int .u32 0, .int .u32 0, .slice none 0 0, .int .i64 t, .int .i64 a, .int .i64 v] := rfl
  have hrz : recV 0 ⟨#[]⟩ 0 0 0 = #[.int .i64 0, .string ⟨#[]⟩, .slice none 0 0, .int .u32 0, .int .u32 0, .int .u32 0, .int .u32 0, .int .u32 0, .int .u32 0, .int .u32 0, .int .u32 0, .int .u32 0, .int .u32 0, .int .u32 0, .int .u32 0, .int .u32 0, .int .u32 0, .int .u32 0, .int .u32 0, .slice none 0 0, .int .i64 0, .int .i64 0, .int .i64 0] := rfl
  have hR2 : Blk ((w.alloc (.cells (recV p nm t a v) 28)).alloc (.cells (recV 0 ⟨#[]⟩ 0 0 0) 28)) w.heap.size (recV p nm t a v) 28 := (Blk.new w _ 28).alloc _
  have hR4 : Blk ((w.alloc (.cells (recV p nm t a v) 28)).alloc (.cells (recV 0 ⟨#[]⟩ 0 0 0) 28)) (w.heap.size + 1) (recV 0 ⟨#[]⟩ 0 0 0) 28 := Blk.newAt (by simp) _ 28
  have hbw : Below w.heap.size w ((w.alloc (.cells (recV p nm t a v) 28)).alloc (.cells (recV 0 ⟨#[]⟩ 0 0 0) 28)) := ((Below.refl _ _).alloc (Nat.le_refl _) _).alloc (by simp) _
  obtain ⟨w1, hw1⟩ : ∃ u, u = (w.alloc (.cells (recV p nm t a v) 28)).alloc (.cells (recV 0 ⟨#[]⟩ 0 0 0) 28) := ⟨_, rfl⟩
  rw [← hw1] at hR2 hR4 hbw
  rw [hrv, hrz] at hw1
  rw [hrv]
  have HW := Lib.hid hw1
  have HRV := Lib.hid hrv
  have HRZ := Lib.hid hrz
  clear hw1 hrv hrz
  obtain ⟨C, hC⟩ : ∃ C, C = rfM p nm t a v now := ⟨_, rfl⟩
  rw [← hC]
  have HC := Lib.hid hC
  clear hC
  go_enter Try.func33, Try.ntmps33
  go_wp2_with (refine (show wpList _ _ _ (⟨some 8, .load 28 (.tmp 2), _, _, _, _⟩ :: _) _ _ from stop_here ?_))
  rw [← HW.out]
  clear HW
  refine Stop.go (wpList_val rfl (r_loadBlk rfl hR2 Try.underlying28 rfl (size28 _ _ _ _ _)) ?_)
  go_wp2_with fail
  refine (tokens_any p nm t a v now _ ht ha hn).mono ?_
  rintro _ w2 ⟨rfl, hb2⟩
  have hR22 := hR2.ext hb2
  have hR42 := hR4.ext hb2
  have hbw2 := hbw.trans (hb2.mono hbw.size)
  have hl4 := hR42.lt
  have hkb := tokM_bounds t a now ht
  clear hb2 hR2 hR4 hbw
  obtain ⟨k, hk⟩ : ∃ k, k = (tokM t a now).1 := ⟨_, rfl⟩
  obtain ⟨at_, hat⟩ : ∃ k, k = (tokM t a now).2 := ⟨_, rfl⟩
  rw [← hk, ← hat]
  rw [← hk] at hkb
  have HKT := Lib.hid hk
  have HAT := Lib.hid hat
  clear hk hat
  have HC1 : Hid (C = recV p nm (min (k + 1) 5) at_ v) := Lib.hid (by rw [HC.out]; unfold rfM; rw [← HKT.out, ← HAT.out])
  go_wp2_with (refine (show wpList _ _ _ (⟨some 13, .load 28 (.tmp 2), _, _, _, _⟩ :: _) _ _ from stop_here ?_))
  refine Stop.go (wpList_val rfl (r_loadBlk rfl hR22 Try.underlying28 rfl (size28 _ _ _ _ _)) ?_)
  go_wp2_with fail
  refine (with_any p nm t a v (k + 1) at_ _).mono ?_
  rintro _ w3 ⟨rfl, hb3⟩
  rw [show max 0 (min (k + 1) 5) = min (k + 1) 5 by omega]
  have hR43 := hR42.ext hb3
  have hbw3 := hbw2.trans (hb3.mono hbw2.size)
  clear hb3 hR42 hR22 hbw2
  go_wp2_with (refine (show wpList _ _ _ (⟨none, .store 28 (.tmp 4) (.tmp 17), _, _, _, _⟩ :: _) _ _ from stop_here ?_))
  refine Stop.go (wpList_store_blk rfl rfl rfl rfl hR43 rfl (size28 _ _ _ _ _) (by simp [recV, Value.oneCell']) ?_)
  intro wz hRz hOz
  have hbwz := hbw3.trans (hOz.below (by omega) hbw3.size)
  clear hOz
  go_wp2
  exact bodyPost_ret (results_cell_row rfl _ _ (w.heap.size + 1) 28 _ (0, 0) _ rfl hRz Try.underlying28 rfl (size28 _ _ _ _ _)) rfl ⟨by rw [HC1.out], hbwz⟩
end Go.Proofs.Ythpjihiikkhcjaa
