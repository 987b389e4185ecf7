/-
  A part of the proofs of this seat: laws of the walk, or contracts of the functions that the statements reach. No conditions but those that each theorem names.
-/
import Derived.Test.YthpjihiikkhcjaaQ
import Derived.Test.YthpjihiikkhcjaaRegH
namespace Go.Proofs.Ythpjihiikkhcjaa
open Go.RowKit Go.Sp
set_option maxRecDepth 100000 in
set_option maxHeartbeats 2000000 in
theorem rbytes_any (l : List UInt8) (w : World) (hl : l.length = 16) :
    Calls Try.prog 44 #[.agg (l.map B).toArray] w fun e w' => ∃ v', e = .returned v' ∧ Own 5 w.heap.size w' v' l ∧ Below w.heap.size w w' := by
  have hsz : (l.map B).toArray.size = 16 := by simp [hl]
  have hgt : ∀ k : Nat, (l.map B).toArray[k]? = (l[k]?).map B := fun k => by simp
  have HSZ := Lib.hid hsz
  have HGT := Lib.hid hgt
  have HL := Lib.hid hl
  clear hsz hgt hl
  generalize (l.map B).toArray = A at *
  go_enter Try.func44, Try.ntmps44
  go_wp2
  have hR : Blk (w.alloc (.cells A 65)) w.heap.size A 65 := Blk.new w A 65
  go_loopw [3, 4] (fun b i wr => ∃ k : Nat, k ≤ 16 ∧ i = .int .i64 k ∧ Own 5 (w.heap.size + 1) wr b (l.take k) ∧ Below w.heap.size w wr ∧ Blk wr w.heap.size A 65) (fun _ i _ => (16 - intOf i).toNat)
  case atStart => exact ⟨0, by omega, rfl, Own.nil _ _ _, (Below.refl _ _).alloc (Nat.le_refl _) _, hR⟩
  case round =>
    obtain ⟨k, hk, rfl, ho, hb, hB⟩ := hrel
    have hsz := hB.lt
    clear hR
    by_cases h16 : k < 16
    · obtain ⟨x, hx⟩ : ∃ x, l[k]? = some x := ⟨l[k]'(by rw [HL.out]; exact h16), by simp [HL.out, h16]⟩
      have hc : wr.cell? ⟨w.heap.size, k, none⟩ = some (B x) := by rw [hB.cell, HGT.out, hx]; rfl
      have hlen : (l.take k).length = k := by simp [HL.out]; omega
      have HLN := Lib.hid hlen
      have HX := Lib.hid hx
      clear hlen hx
      go_wp2_with (at_builtin; refine stop_here ?_)
      refine Stop.go (wpList_append_byt rfl rfl byt29 (ho.below ((Below.refl _ _).alloc (Nat.le_refl _) _)) (l := [x]) (Own.lit 5 wr.heap.size wr [x] (Nat.le_refl _) (by simp [maxLen])).byt rfl rfl (by rw [HLN.out]; simp; omega) (by simp; omega) ?_)
      intro v' w' ho' hg _
      have hl' : Below (w.heap.size + 1) wr w' := ((Below.refl _ _).alloc (by omega) _).trans (toBelow hg (by simp; omega) (fun g hgg => (ho.lt g hgg).1))
      have hb' := hb.trans (hl'.mono (by omega))
      have hB' := hB.below hl' (by omega)
      have ho2 : Own 5 (w.heap.size + 1) w' v' (l.take (k + 1)) := by rw [List.take_add_one, HX.out]; exact ho'
      clear hg ho hb hB ho' hc hl'
      go_wp2
      go_roundw
      case rel => exact ⟨k + 1, by omega, by go_num, ho2, hb', hB'⟩
      case measure => simp [intOf]; omega
    · obtain rfl : k = 16 := by omega
      go_wp2
      go_ret
      refine ⟨_, rfl, ?_, hb⟩
      rw [List.take_of_length_le (by rw [HL.out]; omega)] at ho
      exact ho.mono (by omega)
end Go.Proofs.Ythpjihiikkhcjaa
