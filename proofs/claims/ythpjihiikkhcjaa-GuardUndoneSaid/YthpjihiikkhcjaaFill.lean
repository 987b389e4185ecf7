/-
  A part of the proofs of this seat: laws of the walk, or contracts of the functions that the statements reach. No conditions but those that each theorem names.
-/
import Derived.Test.YthpjihiikkhcjaaMem2
namespace Go.Sp
open Go.RowKit
/-- A row whose first k cells are filled. -/
def fillA (f : Nat → Value) (z : Value) (n k : Nat) : Array Value := ((List.range n).map fun i => if i < k then f i else z).toArray
theorem fillA_size (f : Nat → Value) (z : Value) (n k : Nat) : (fillA f z n k).size = n := by simp [fillA]
theorem fillA_get (f : Nat → Value) (z : Value) (n k i : Nat) (h : i < n) : (fillA f z n k)[i]? = some (if i < k then f i else z) := by simp [fillA, h]
theorem fillA_next (f : Nat → Value) (z : Value) (n k : Nat) : (fillA f z n k).setIfInBounds k (f k) = fillA f z n (k + 1) := by
  apply Array.ext_getElem?
  intro i
  rw [Array.getElem?_setIfInBounds]
  by_cases hi : i < n
  · rw [fillA_get f z n (k + 1) i hi, fillA_get f z n k i hi, fillA_size]
    by_cases hk : k = i
    · subst hk; simp [hi]
    · simp [hk]; split <;> split <;> first | rfl | omega
  · have h1 : (fillA f z n k)[i]? = none := by simp [fillA_size]; omega
    have h2 : (fillA f z n (k + 1))[i]? = none := by simp [fillA_size]; omega
    rw [h1, h2, fillA_size]
    split <;> simp; omega
theorem fillA_all (f : Nat → Value) (z : Value) (n k : Nat) (h : n ≤ k) : fillA f z n k = ((List.range n).map f).toArray := by
  unfold fillA
  congr 1
  apply List.map_congr_left
  intro i hi
  have := List.mem_range.1 hi
  rw [if_pos (by omega)]
theorem fillA_zero (f : Nat → Value) (z : Value) (n : Nat) : fillA f z n 0 = (List.replicate n z).toArray := by
  unfold fillA
  congr 1
  rw [List.eq_replicate_iff]
  simp
end Go.Sp
