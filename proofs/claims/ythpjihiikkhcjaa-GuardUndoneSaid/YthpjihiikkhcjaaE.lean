/-
  A part of the proofs of this seat: laws of the walk, or contracts of the functions that the statements reach. No conditions but those that each theorem names.
-/
import Derived.Test.YthpjihiikkhcjaaD
namespace Go.Proofs.Ythpjihiikkhcjaa
open Go.RowKit Go.Sp
set_option maxHeartbeats 400000 in
theorem eight_any (n : Int) (w : World) :
    Calls Try.prog 54 #[.int .i64 n] w fun e w' => ∃ v', e = .returned v' ∧ Own 5 w.heap.size w' v' (eight n) ∧ Below w.heap.size w w' := by
  go_enter Try.func54, Try.ntmps54
  go_wp2
  go_loopw [3, 4] (fun b i wr => ∃ k : Nat, k ≤ 8 ∧ i = .int .i64 k ∧ Own 5 w.heap.size wr b ((List.range k).map (e8 n)) ∧ Below w.heap.size w wr) (fun _ i _ => (8 - intOf i).toNat)
  case atStart => exact ⟨0, by omega, rfl, Own.nil _ _ _, Below.refl _ _⟩
  case round =>
    obtain ⟨k, hk, rfl, ho, hb⟩ := hrel
    have hsz := hb.size
    by_cases h8 : k < 8
    · have hlen : ((List.range k).map (e8 n)).length = k := by simp
      have HL := Lib.hid hlen
      clear hlen
      go_wp2_with (at_builtin; refine stop_here ?_)
      refine Stop.go (wpList_append_byt rfl rfl byt29 (ho.below ((Below.refl _ _).alloc (Nat.le_refl _) _)) (l := [e8 n k]) (Own.lit 5 wr.heap.size wr [e8 n k] (Nat.le_refl _) (by simp [maxLen])).byt rfl rfl (by rw [HL.out]; simp; omega) (by simp; omega) ?_)
      intro v' w' ho' hg _
      have hb' : Below w.heap.size w w' := (hb.alloc hsz _).trans (toBelow hg (by simp; omega) (fun g hgg => (ho.lt g hgg).1))
      rw [← range_snoc] at ho'
      clear hg ho hb
      go_wp2
      go_roundw
      case rel => exact ⟨k + 1, by omega, by go_num, ho', hb'⟩
      case measure => simp [intOf]; omega
    · obtain rfl : k = 8 := by omega
      go_wp2
      go_ret
      exact ⟨_, rfl, ho, hb⟩
end Go.Proofs.Ythpjihiikkhcjaa
