/-
  A part of the proofs of this seat: laws of the walk, or contracts of the functions that the statements reach. No conditions but those that each theorem names.
-/
import Derived.Test.YthpjihiikkhcjaaG
namespace Go.Proofs.Ythpjihiikkhcjaa
open Go.RowKit Go.Sp
theorem madeZ (n : Nat) : madeCells (Value.int .u8 0).cells (n * 1) = ((List.replicate n (0 : UInt8)).map B).toArray := by
  have h := toList_madeCells_one (.int .u8 0) n
  apply Array.ext'
  rw [Nat.mul_one]
  simpa [Value.cells, show B 0 = Value.int .u8 0 from rfl] using h
set_option maxRecDepth 100000 in
set_option maxHeartbeats 2000000 in
theorem fill_any (p : Nat) (s : S8) (wv : Value) (l : List UInt8) (w : World) (hp : Blk w p (s.cells wv) 86) (hw : Byt w wv l) (hne : wv.ownBlock ≠ some p) (hl : l.length < 16) :
    Calls Try.prog 60 #[.pointer (some ⟨p, 0, none⟩)] w fun e w' => e = .returned (.tuple #[]) ∧ Only p w w' ∧ ∃ wv', Blk w' p ((absAll s (padBlk l)).1.cells wv') 86 ∧ Byt w' wv' [] ∧ wv'.ownBlock ≠ some p := by
  have hbc := hp.cell
  have hpl := hp.lt
  simp only [S8.cells] at hbc
  obtain ⟨a, c, rfl, hc, hm⟩ := hw.len
  by_cases h0 : l = []
  · subst h0
    have hn0 : ¬ ((0 : Int) < (([] : List UInt8).length : Int)) := by simp
    go_enter Try.func60, Try.ntmps60
    go_wp2
    go_end0
    refine ⟨rfl, Only.refl _ _, _, ?_, hw, hne⟩
    rw [show absAll s (padBlk []) = (s, []) by rw [absAll_lt (by simp [padBlk])]; simp [padBlk]]
    exact hp
  · have hpos : 0 < l.length := by
      rcases l with _ | _ <;> simp_all
    have hpos' : (0 : Int) < (l.length : Int) := by omega
    go_enter Try.func60, Try.ntmps60
    go_wp2_with (at_make; refine stop_here ?_)
    obtain ⟨i, hi, hz, hs1, hb1⟩ := byt29.info
    refine Stop.go (wpList_make_full w rfl _ _ 23 rfl w.heap.size 5 i (.int .u8 0) 1 Try.underlying23 hi hz hs1 .i64 .i64 _ _ (16 - l.length) rfl rfl ?_ ?_ (by rw [hb1]; omega) (by unfold maxLen; omega) (Nat.le_refl _) ?_)
    · omega
    · omega
    intro w1 ho1 hg1
    have hB1 : Below w.heap.size w w1 := toBelow hg1 (Nat.le_refl _) (by simp)
    rw [madeZ] at ho1
    have hO : Own 5 w.heap.size w1 (.slice (some ⟨w.heap.size, 0, none⟩) (16 - l.length) (16 - l.length)) (List.replicate (16 - l.length) 0) := by
      unfold Own; simpa using ho1
    clear hbc hpos'
    go_wp2_with fail
    refine (write_any p s _ _ l (List.replicate (16 - l.length) 0) w1 (hp.ext hB1) (hw.ext hB1) hO.byt (by simp; omega)).mono ?_
    rintro e w2 ⟨rfl, h2, wv', h3, h4, h5, h6⟩
    go_wp2
    go_end0
    have hpad : padBlk l = l ++ List.replicate (16 - l.length) 0 := by
      unfold padBlk; congr 2; omega
    refine ⟨rfl, (Only.ofBelow hB1 (Nat.le_refl _)).trans h2, wv', ?_, ?_, h5⟩
    · rw [hpad]; exact h3
    · rw [← hpad, absAll_whole _ _ (padBlk_length l)] at h4; exact h4
end Go.Proofs.Ythpjihiikkhcjaa
