/-
  A part of the proofs of this seat: laws of the walk, or contracts of the functions that the statements reach. No conditions but those that each theorem names.
-/
import Derived.Test.YthpjihiikkhcjaaN
namespace Go.Sp
theorem padBlk_done {l : List UInt8} (h : l.length % 16 = 0) : padBlk l = l := by
  unfold padBlk; rw [h]; simp
theorem padBlk_more {l : List UInt8} (h : l.length % 16 ≠ 0) : padBlk (l ++ [0]) = padBlk l := by
  unfold padBlk
  rw [List.append_assoc, List.length_append, List.length_singleton, List.singleton_append, ← List.replicate_succ]
  congr 2; omega
end Go.Sp
namespace Go.Proofs.Ythpjihiikkhcjaa
open Go.RowKit Go.Sp
set_option maxRecDepth 100000 in
set_option maxHeartbeats 2000000 in
theorem padded_any (v : Value) (l : List UInt8) (w : World) (hv : Byt w v l) (hl : l.length ≤ 8796093022208) :
    Calls Try.prog 62 #[v] w fun e w' => ∃ v', e = .returned v' ∧ Own 5 w.heap.size w' v' (padBlk l) ∧ Below w.heap.size w w' := by
  obtain ⟨a, c, rfl, _, _⟩ := hv.len
  go_enter Try.func62, Try.ntmps62
  go_wp2_with (at_builtin; refine stop_here ?_)
  refine Stop.go (wpList_append_byt rfl rfl byt29 (Own.lit 5 w.heap.size w [] (Nat.le_refl _) (by simp)) (hv.ext ((Below.refl _ _).alloc (Nat.le_refl _) _)) rfl rfl (by simp; omega) (by simp) ?_)
  intro v1 w1 ho1 hg1 _
  have hb1 : Below w.heap.size w w1 := ((Below.refl _ _).alloc (Nat.le_refl _) _).trans (toBelow hg1 (by simp) (by simp [Value.ownBlock]))
  rw [List.nil_append] at ho1
  clear hg1 hv
  go_wp2
  go_loopw [3] (fun b wr => ∃ l' : List UInt8, padBlk l' = padBlk l ∧ Own 5 w.heap.size wr b l' ∧ Below w.heap.size w wr) (fun b _ => match b with | .slice _ n _ => (16 - n % 16) % 16 | _ => 0)
  case atStart => exact ⟨l, rfl, ho1, hb1⟩
  case round =>
    obtain ⟨l', hp, ho, hb⟩ := hrel
    have hn : l'.length ≤ l.length + 15 := by have := congrArg List.length hp; simp [padBlk] at this; omega
    obtain ⟨a', c', rfl, _, _⟩ := ho.byt.len
    have hsz := hb.size
    clear ho1 hb1
    have HP := Lib.hid hp
    clear hp
    by_cases h0 : l'.length % 16 = 0
    · have hm : ¬ ((0 : Int) < (l'.length : Int) % 16) := by omega
      have H0 := Lib.hid h0
      clear h0
      go_wp2
      go_ret
      refine ⟨_, rfl, ?_, hb⟩
      rw [← HP.out, padBlk_done H0.out]; exact ho
    · have hm : (0 : Int) < (l'.length : Int) % 16 := by omega
      go_wp2_with (at_builtin; refine stop_here ?_)
      refine Stop.go (wpList_append_byt rfl rfl byt29 (ho.below ((Below.refl _ _).alloc (Nat.le_refl _) _)) (l := [0]) (Own.lit 5 wr.heap.size wr [0] (Nat.le_refl _) (by simp [maxLen])).byt rfl rfl (by simp; omega) (by simp; omega) ?_)
      intro v2 w2 ho2 hg2 _
      have hb2 : Below w.heap.size w w2 := (hb.alloc hsz _).trans (toBelow hg2 (by simp; omega) (fun g hgg => (ho.lt g hgg).1))
      have hpm := (padBlk_more h0).trans HP.out
      have HPM := Lib.hid hpm
      clear hpm hg2 ho hb
      have H0 := Lib.hid h0
      clear h0
      obtain ⟨a2, c2, rfl, _, _⟩ := ho2.byt.len
      go_wp2
      go_roundw
      case rel => exact ⟨l' ++ [0], HPM.out, by simpa using ho2, hb2⟩
      case measure => simp; omega
end Go.Proofs.Ythpjihiikkhcjaa
