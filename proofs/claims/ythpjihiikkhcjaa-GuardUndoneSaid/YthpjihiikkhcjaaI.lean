/-
  A part of the proofs of this seat: laws of the walk, or contracts of the functions that the statements reach. No conditions but those that each theorem names.
-/
import Derived.Test.YthpjihiikkhcjaaH
namespace Go.Proofs.Ythpjihiikkhcjaa
open Go.RowKit Go.Sp
theorem Byt.lt {w : World} {v : Value} {l : List UInt8} (h : Byt w v l) : ∀ k, v.ownBlock = some k → k < w.heap.size := by
  intro k hk
  rcases h with ⟨rfl, _⟩ | ⟨g, off, cap, rfl, _, _, h3, _⟩ <;> simp [Value.ownBlock] at hk
  subst hk; exact h3
theorem zero_cells : (#[.int .u32 0, .int .u32 0, .int .u32 0, .int .u32 0, .int .u32 0, .int .u32 0, .int .u32 0, .int .u32 0, .slice none 0 0] : Array Value) = S8.zero.cells (.slice none 0 0) := rfl
set_option maxRecDepth 100000 in
set_option maxHeartbeats 2000000 in
theorem new_any (kv : Value) (key : List UInt8) (w : World) (hk : Byt w kv key) (hl : key.length ≤ 549755813888) :
    Calls Try.prog 52 #[kv] w fun e w' => ∃ p wv, e = .returned (.pointer (some ⟨p, 0, none⟩)) ∧ w.heap.size ≤ p ∧ Below w.heap.size w w' ∧ Blk w' p ((keyS key).cells wv) 86 ∧ Byt w' wv [] ∧ wv.ownBlock ≠ some p := by
  have hklt := Byt.lt hk
  have HKL := Lib.hid hklt
  clear hklt
  obtain ⟨ka, kc, rfl, hkc, hkm⟩ := hk.len
  unfold maxLen at hkm
  go_enter Try.func52, Try.ntmps52
  go_wp2_with fail
  generalize hn : w.heap.size = n
  refine (number_any _ _).mono ?_
  rintro e w1 ⟨v1, rfl, ho1, hb1⟩
  rw [zero_cells] at ho1 hb1
  have hB0 : Blk (w.alloc (.cells (S8.zero.cells (.slice none 0 0)) 86)) n (S8.zero.cells (.slice none 0 0)) 86 := hn ▸ Blk.new w _ 86
  have hk0 : Byt (w.alloc (.cells (S8.zero.cells (.slice none 0 0)) 86)) (.slice ka key.length kc) key := hk.ext ((Below.refl _ _).alloc (Nat.le_refl _) _)
  have hk1 := hk0.ext hb1
  have hBel : Below n w w1 := ((hn ▸ (Below.refl n w).alloc (by omega) _ : Below n w (w.alloc (.cells (S8.zero.cells (.slice none 0 0)) 86)))).trans (hb1.mono (by simp; omega))
  have hB1 := hB0.ext hb1
  clear hB0 hk0 hb1 hk
  go_wp2_with fail
  refine (write_any n S8.zero _ v1 [] (eight key.length) w1 hB1 (Byt.nil _) ho1.byt (by simp [eight_length])).mono ?_
  rintro e w2 ⟨rfl, h2, wv2, h3, h4, h5, h6⟩
  have hk2 := hk1.only h2 (fun h => by have := HKL.out n h; omega)
  have hBel2 : Below n w w2 := hBel.trans (h2.below (Nat.le_refl _) (by have := hBel.size; omega))
  clear hB1 ho1 hBel h2 hk1
  go_wp2_with fail
  refine (write_any n _ _ _ _ key w2 h3 h4 hk2 (by rw [absAll_waits]; omega)).mono ?_
  rintro e w3 ⟨rfl, g2, wv3, g3, g4, g5, g6⟩
  have hBel3 : Below n w w3 := hBel2.trans (g2.below (Nat.le_refl _) (by have := hBel2.size; omega))
  clear h3 h4 h5 h6 hk2 hBel2 g2
  go_wp2_with fail
  refine (fill_any n _ _ _ w3 g3 g4 g5 (by rw [absAll_waits]; omega)).mono ?_
  rintro e w4 ⟨rfl, f2, wv4, f3, f4, f5⟩
  have hBel4 : Below n w w4 := hBel3.trans (f2.below (Nat.le_refl _) (by have := hBel3.size; omega))
  go_wp2
  go_ret
  refine ⟨n, wv4, rfl, by omega, hn ▸ hBel4, ?_, f4, f5⟩
  rw [List.nil_append, ← absAll_append, ← absAll_pad] at f3
  exact f3
end Go.Proofs.Ythpjihiikkhcjaa
