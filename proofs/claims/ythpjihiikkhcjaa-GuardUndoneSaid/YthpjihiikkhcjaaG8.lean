/-
  A part of the proofs of this seat: laws of the walk, or contracts of the functions that the statements reach. No conditions but those that each theorem names.
-/
import Derived.Test.YthpjihiikkhcjaaG7
import Derived.Lib.ConvBytes
namespace Go.Sp
open Go.RowKit
def tokV (nm : List UInt8) (i c e r : Int) : Array Value := #[.string ⟨nm.toArray⟩, .int .i64 i, .int .i64 c, .int .i64 e, .int .i64 r]
/-- A token's bytes, without its sum. -/
def bodyB (nm : List UInt8) (i c e r : Int) : List UInt8 := cat [[b8 nm.length], nm, eight i, eight c, eight e, eight r]
def tokenS : List UInt8 := [116, 111, 107, 101, 110]
def issueB (key nm : List UInt8) (i c e r : Int) : List UInt8 := bodyB nm i c e r ++ macB key [tokenS, bodyB nm i c e r]
end Go.Sp
namespace Go.Proofs.Ythpjihiikkhcjaa
open Go.RowKit Go.Sp
theorem run_string_bytes (nm : List UInt8) (hl : nm.length ≤ 1000000) (u : World) : ∃ v u', (convert 9 23 (.string ⟨nm.toArray⟩)).run Try.prog u = .ok v u' ∧ Byt u' v nm ∧ Below u.heap.size u u' := by
  have hsz : (⟨nm.toArray⟩ : ByteArray).size = nm.length := rfl
  have hg := grownCap_ge u nm.length 0 5
  have hm := grownCap_le_maxLen u nm.length 0 5 (by unfold maxLen; omega)
  refine ⟨_, _, Lib.run_convert_string_bytes u 9 23 5 ⟨nm.toArray⟩ Try.underlying9 Try.underlying23 Try.underlying5, ?_, ?_⟩
  · rw [hsz]
    refine .inr ⟨u.heap.size, 0, _, rfl, hg, hm, by rw [Lib.bytesWorld_size]; omega, fun i b hi => ?_⟩
    have hib : i < nm.length := (List.getElem?_eq_some_iff.1 hi).1
    rw [Nat.zero_add, Lib.bytesWorld_cell u 5 ⟨nm.toArray⟩ i (by rw [hsz]; exact hib)]
    simp only [List.getD_eq_getElem?_getD]
    rw [hi]; rfl
  · refine ⟨by simp [Lib.bytesWorld, World.freeze]; rfl, by simp [Lib.bytesWorld, World.freeze], by simp [Lib.bytesWorld, World.freeze]; rfl, by rw [Lib.bytesWorld_size]; omega, fun k hk => Lib.bytesWorld_at_old u 5 _ k hk⟩
theorem conv_token (w : World) (L : List UInt8) (hL : L.length ≤ 1000) : ∃ u', (convert 23 23 (.slice (some ⟨w.heap.size, 0, none⟩) L.length L.length)).run Try.prog (w.alloc (.cells (L.map B).toArray 5)) = .ok (.slice (some ⟨w.heap.size, 0, none⟩) L.length L.length) u' ∧ Byt u' (.slice (some ⟨w.heap.size, 0, none⟩) L.length L.length) L ∧ Below w.heap.size w u' := by
  have hB := Blk.new w (L.map B).toArray 5
  have hs : (w.alloc (.cells (L.map B).toArray 5)).heap.size = w.heap.size + 1 := by simp
  have ha : Below w.heap.size w (w.alloc (.cells (L.map B).toArray 5)) := (Below.refl _ _).alloc (Nat.le_refl _) _
  generalize w.alloc (.cells (L.map B).toArray 5) = u at *
  have hx : ∀ k, ExtM 5 w.heap.size u (u.freeze ⟨w.heap.size, k, none⟩ 1) := fun k => freeze_ext _ _ _ _ (Nat.le_refl _) ⟨_, _, hB⟩
  have hby : Byt u (.slice (some ⟨w.heap.size, 0, none⟩) L.length L.length) L := Byt.ofBlk hB (by simp [maxLen]; omega)
  cases hsh : u.shape? w.heap.size with
  | none => exact ⟨u, by simp [convert, run_underlying Try.underlying23, run_underlying Try.underlying5, markStringish, hsh], hby, ha⟩
  | some tn => exact ⟨u.freeze ⟨w.heap.size, tn.2, none⟩ 1, by simp [convert, run_underlying Try.underlying23, run_underlying Try.underlying5, markStringish, hsh], hby.extM (hx _), ha.trans (hx _).below⟩
end Go.Proofs.Ythpjihiikkhcjaa
