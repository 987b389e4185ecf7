/-
  A part of the proofs of this seat: laws of the walk, or contracts of the functions that the statements reach. No conditions but those that each theorem names.
-/
import Derived.Test.YthpjihiikkhcjaaFill
import Derived.Test.YthpjihiikkhcjaaModel
import Derived.Test.YthpjihiikkhcjaaC
namespace Go.Proofs.Ythpjihiikkhcjaa
open Go.RowKit Go.Sp
set_option maxHeartbeats 400000 in
theorem number_any (n : Int) (w : World) :
    Calls Try.prog 59 #[.int .i64 n] w fun e w' => ∃ v', e = .returned v' ∧ Own 5 w.heap.size w' v' (eight n) ∧ Below w.heap.size w w' := by
  have hmk : ∀ w, (Instr.makeSlice 23 (.int .i64 8) (.int .i64 8)).run Try.prog w = .ok (.slice (some ⟨w.heap.size, 0, none⟩) 8 8) (w.alloc (.cells (fillA (fun i => B (e8 n i)) (.int .u8 0) 8 0) 5)) := fun _ => by kernel_rfl
  go_enter Try.func59, Try.ntmps59
  go_wp2
  go_loopw [8, 4] (fun i _ wr => ∃ k : Nat, k ≤ 8 ∧ i = .int .i64 k ∧ wr = w.alloc (.cells (fillA (fun i => B (e8 n i)) (.int .u8 0) 8 k) 5)) (fun i _ _ => (8 - intOf i).toNat)
  case atStart => exact ⟨0, by omega, rfl, rfl⟩
  case round =>
    obtain ⟨k, hk, rfl, rfl⟩ := hrel
    by_cases h8 : k < 8
    · have hg := fillA_get (fun i => B (e8 n i)) (.int .u8 0) 8 k k h8
      rw [if_neg (by omega)] at hg
      go_wp2
      go_roundw
      case rel => exact ⟨k + 1, by omega, by go_num, by rw [← fillA_next]; rfl⟩
      case measure => simp [intOf]; omega
    · obtain rfl : k = 8 := by omega
      go_wp2
      go_ret
      refine ⟨_, rfl, ?_, (Below.refl _ _).alloc (Nat.le_refl _) _⟩
      rw [fillA_all _ _ _ _ (Nat.le_refl _)]
      have := Own.lit 5 w.heap.size w (eight n) (Nat.le_refl _) (by simp [eight, maxLen])
      rw [eight, List.map_map, List.length_map, List.length_range] at this
      exact this
end Go.Proofs.Ythpjihiikkhcjaa
