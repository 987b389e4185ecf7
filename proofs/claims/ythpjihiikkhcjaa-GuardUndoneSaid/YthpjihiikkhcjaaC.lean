/-
  A part of the proofs of this seat: laws of the walk, or contracts of the functions that the statements reach. No conditions but those that each theorem names.
-/
import Derived.Test.YthpjihiikkhcjaaMem2
import Derived.Test.YthpjihiikkhcjaaRows
namespace Go.Proofs.Ythpjihiikkhcjaa
open Go.RowKit Go.Sp
theorem byt29 : BytT Try.prog 23 5 := ⟨Try.underlying23, Try.underlying5, info_parts (by kernel_rfl)⟩
set_option maxHeartbeats 400000 in
theorem clone_any (v : Value) (l : List UInt8) (w : World) (hl : l.length ≤ 35184372088832) (hv : Byt w v l) :
    Calls Try.prog 57 #[v] w fun e w' => ∃ v', e = .returned v' ∧ Own 5 w.heap.size w' v' l ∧ Below w.heap.size w w' := by
  have hk := fun (w : World) a n c => Lib.run_eql_slice_nil (P := Try.prog) w 23 5 a n c 0 0 Try.underlying23
  rcases hv with ⟨rfl, rfl⟩ | hv'
  · go_enter Try.func57, Try.ntmps57
    go_wp2
    go_ret
    exact ⟨_, rfl, Own.nil _ _ _, Below.refl _ _⟩
  · have hv : Byt w v l := .inr hv'
    obtain ⟨g, off, cap, rfl, h1, h2, h3, h4⟩ := hv'
    clear h4
    go_enter Try.func57, Try.ntmps57
    go_wp2_with (at_builtin; refine stop_here ?_)
    refine Stop.go (wpList_append_byt rfl rfl byt29 (Own.lit 5 w.heap.size w [] (Nat.le_refl _) (by simp)) (hv.ext ((Below.refl _ _).alloc (Nat.le_refl _) _)) rfl rfl (by simp; omega) (by simp) ?_)
    intro v' w' ho hg _
    go_wp2
    go_ret
    exact ⟨_, rfl, ho, ((Below.refl _ _).alloc (Nat.le_refl _) _).trans (toBelow hg (by simp) (by simp [Value.ownBlock]))⟩
end Go.Proofs.Ythpjihiikkhcjaa
