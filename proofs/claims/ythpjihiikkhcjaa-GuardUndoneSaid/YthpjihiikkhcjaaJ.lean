/-
  A part of the proofs of this seat: laws of the walk, or contracts of the functions that the statements reach. No conditions but those that each theorem names.
-/
import Derived.Test.YthpjihiikkhcjaaI
import Derived.StillTailTactics
import Derived.BigRegion
namespace Go.Proofs.Ythpjihiikkhcjaa
open Go.RowKit Go.Sp
theorem cells_lit (s : S8) (v : Value) : (#[W s.a, W s.b, W s.c, W s.d, W s.e, W s.f, W s.g, W s.h, v] : Array Value) = s.cells v := rfl
set_option maxRecDepth 100000 in
set_option maxHeartbeats 2000000 in
theorem sum_any (p : Nat) (s : S8) (wv : Value) (l : List UInt8) (w : World) (hp : Blk w p (s.cells wv) 86) (hw : Byt w wv l) (hl : l.length < 16) :
    Calls Try.prog 61 #[.pointer (some ⟨p, 0, none⟩)] w fun e w' => e = .returned (.agg ((sumB s l).map B).toArray) ∧ Below w.heap.size w w' := by
  have hbc := hp.cell
  have hpl := hp.lt
  simp only [S8.cells] at hbc
  obtain ⟨wa, wc, rfl, _, hwm⟩ := hw.len
  go_enter Try.func61, Try.ntmps61
  go_wp2
  refine wp_region_still_tail 9 (by kernel_rfl) (by kernel_rfl) ?_
  simp only [World.drew_eq, List.take_succ_cons, List.take_zero, List.drop_succ_cons, List.drop_zero]
  repeat still_step
  refine wpStill_nil ?_
  clear hbc
  go_wp2_with fail
  refine (write_any (w.heap.size + 1) s _ _ l [128] _ (Blk.drew (Blk.alloc (Blk.newAt (by simp) (s.cells _) 86) _)) (hw.ext ?_) (Byt.drew (Byt.ofBlk (l := [128]) (t := 5) (Blk.newAt (by simp) _ _) (by simp [maxLen]))) (by simp; omega)).mono ?_
  · exact ((((Below.refl _ _).alloc (Nat.le_refl _) _).alloc (by simp) _).alloc (by simp; omega) _).drew
  rintro e w2 ⟨rfl, a2, wv2, a3, a4, a5, a6⟩
  have hB2 : Below w.heap.size w w2 := ((((((Below.refl _ _).alloc (Nat.le_refl _) _).alloc (by simp) _).alloc (by simp; omega) _).drew)).trans (a2.below (by omega) (by simp; omega))
  have hR2 := (Blk.drew (Blk.alloc (Blk.alloc (Blk.new w _ 65) (.cells (s.cells (.slice wa l.length wc)) 86)) (.cells ([128].map B).toArray 5))).only a2 (by omega)
  clear a2 a6
  go_wp2_with fail
  refine (fill_any (w.heap.size + 1) _ _ _ w2 a3 a4 a5 (by rw [absAll_waits]; omega)).mono ?_
  rintro e w3 ⟨rfl, b2, wv3, b3, b4, b5⟩
  go_wp2_with fail
  have hR3 := hR2.only b2 (by omega)
  have hB3 : Below w.heap.size w w3 := hB2.trans (b2.below (by omega) (by have := hB2.size; omega))
  have hpl3 := b3.lt
  generalize hS : (absAll (absAll s (l ++ [128])).fst (padBlk (absAll s (l ++ [128])).snd)).fst = S at *
  have HS := Lib.hid hS
  have hbc := b3.cell
  have hbf := b3.frozen
  have HB := Lib.hid b3
  have HR := Lib.hid hR3
  have HW := Lib.hid hB3
  simp only [S8.cells] at hbc
  clear hS a3 a4 a5 b2 b4 b5 b3 hR2 hR3 hB2 hB3 hp hw hpl
  refine wp_region_still_tail 9 (by kernel_rfl) (by kernel_rfl) ?_
  simp only [World.drew_eq, List.take_succ_cons, List.take_zero, List.drop_succ_cons, List.drop_zero]
  repeat still_step
  refine wpStill_nil ?_
  go_wp2_with fail
  have hB4 := HB.out.drew.set 7 (W (S.h ^^^ w32 1))
  clear hbc hbf
  refine (mix_any ⟨S.a, S.b, S.c, S.d, S.e, S.f, S.g, S.h ^^^ w32 1⟩ _).mono ?_
  rintro e w5 ⟨rfl, h5⟩
  have hB5 := hB4.ext h5
  have hR5 := (HR.out.drew.setOther ⟨w.heap.size + 1, 7, none⟩ (W (S.h ^^^ w32 1)) (by simp)).ext h5
  have hb5 : Below w.heap.size w w5 := ((HW.out.drew).setCell (p := ⟨w.heap.size + 1, 7, none⟩) (by simp) (W (S.h ^^^ w32 1))).trans (Below.mono h5 (by have := HW.out.size; simp; omega))
  have ht : w5.there (w.heap.size + 1) 0 8 := Blk.there8 (s := ⟨S.a, S.b, S.c, S.d, S.e, S.f, S.g, S.h ^^^ w32 1⟩) hB5
  have HT := Lib.hid ht
  generalize hm : mix _ = m at *
  have HM := Lib.hid hm
  clear h5 hB4 HB HR HW hm ht
  go_wp2_with (refine (show wpList _ _ _ (⟨none, .store 25 (.tmp 37) (.tmp 35), _, _, _, _⟩ :: _) _ _ from stop_here ?_))
  refine Stop.go (wpList_store_mid rfl 25 (.tmp 37) (.tmp 35) rfl (w.heap.size + 1) 0 m.vals rfl rfl HT.out (by kernel_rfl) (vals_one m) ?_)
  have hB6 := hB5.setCells m.vals.toList 0
  have hR6 := hR5.setCellsOther m.vals.toList 0 (by omega : w.heap.size ≠ w.heap.size + 1)
  have hb6 := Go.Sp.Below.setCells (g := w.heap.size + 1) m.vals.toList 0 hb5 (by omega)
  generalize World.setCells w5 _ _ _ = w6 at *
  have hpl6 := hB6.lt
  have hB7 : Blk w6 (w.heap.size + 1) (m.cells wv3) 86 := by simpa [putL, S8.vals, S8.cells] using hB6
  clear hB6
  go_wp2
  have hz : (#[Value.int .u8 0, .int .u8 0, .int .u8 0, .int .u8 0, .int .u8 0, .int .u8 0, .int .u8 0, .int .u8 0, .int .u8 0, .int .u8 0, .int .u8 0, .int .u8 0, .int .u8 0, .int .u8 0, .int .u8 0, .int .u8 0] : Array Value) = fillA (fun i => B (outb m i)) (.int .u8 0) 16 0 := rfl
  rw [hz]
  clear hz
  go_loopw [38, 5] (fun i _ wr => ∃ k : Nat, k ≤ 16 ∧ i = .int .i64 k ∧ wr = w6.alloc (.cells (fillA (fun i => B (outb m i)) (.int .u8 0) 16 k) 65)) (fun i _ _ => (16 - intOf i).toNat)
  case atStart => exact ⟨0, by omega, rfl, rfl⟩
  case round =>
    obtain ⟨k, hk, rfl, rfl⟩ := hrel
    by_cases h16 : k < 16
    · have hg := fillA_get (fun i => B (outb m i)) (.int .u8 0) 16 k k h16
      rw [if_neg (by omega)] at hg
      have hcw : w6.cell? ⟨w.heap.size + 1, k / 4, none⟩ = some (W (m.word (k / 4))) := by
        rw [hB7.cell]
        have h4 : k / 4 = 0 ∨ k / 4 = 1 ∨ k / 4 = 2 ∨ k / 4 = 3 := by omega
        rcases h4 with h4 | h4 | h4 | h4 <;> rw [h4] <;> simp [S8.cells, S8.word]
      have hs0 : (0 : Int) ≤ 8 * ((k : Int) % 4) := by omega
      have hs1 : 8 * ((k : Int) % 4) ≤ 32 := by omega
      have hq0 : (0 : Int) ≤ (k : Int) / 4 := by omega
      have hq4 : (k : Int) / 4 < 4 := by omega
      go_wp2
      go_roundw
      case rel => exact ⟨k + 1, by omega, by go_num, by rw [← fillA_next]; rfl⟩
      case measure => simp [intOf]; omega
    · obtain rfl : k = 16 := by omega
      have hF : fillA (fun i => B (outb m i)) (.int .u8 0) 16 16 = ((outB m).map B).toArray := by
        rw [fillA_all _ _ _ _ (Nat.le_refl _)]; simp [outB, Function.comp_def]
      rw [hF]
      have hsz : ((outB m).map B).toArray.size = 16 := by simp [outB_length]
      have HSZ := Lib.hid hsz
      have hone : ((outB m).map B).toArray.all (·.oneCell') = true := by simp [Value.oneCell']
      have HONE := Lib.hid hone
      clear hF hsz hone
      generalize hOUT : ((outB m).map B).toArray = OUT at *
      have HOUT := Lib.hid hOUT
      clear hOUT
      go_wp2_with (refine (show wpList _ _ _ (⟨some 56, .load 65 (.tmp 4), _, _, _, _⟩ :: _) _ _ from stop_here ?_))
      refine Stop.go (wpList_load_row rfl 65 (.tmp 4) rfl w6.heap.size rfl 65 OUT (0, 0) _ (Blk.new w6 OUT 65) Try.underlying65 rfl (by rw [HSZ.out]; kernel_rfl) ?_)
      go_wp2_with (refine (show wpList _ _ _ (⟨none, .store 65 (.tmp 2) (.tmp 56), _, _, _, _⟩ :: _) _ _ from stop_here ?_))
      have hR7 : Blk (w6.alloc (.cells OUT 65)) w.heap.size _ 65 := hR6.alloc _
      have ht7 : (w6.alloc (.cells OUT 65)).there w.heap.size 0 OUT.size := fun j hj => by
        rw [HSZ.out] at hj
        refine ⟨?_, hR7.frozen _⟩
        rw [hR7.cell]
        simp; omega
      refine Stop.go (wpList_store_mid rfl 65 (.tmp 2) (.tmp 56) rfl w.heap.size 0 OUT rfl rfl ht7 (by rw [HSZ.out]; kernel_rfl) HONE.out ?_)
      have hR8 := hR7.setCells OUT.toList 0
      rw [putL_all _ _ (by rw [Array.length_toList, HSZ.out]; rfl)] at hR8
      have hb8 := Go.Sp.Below.setCells (g := w.heap.size) OUT.toList 0 (hb6.alloc hb6.size (.cells OUT 65)) (Nat.le_refl _)
      generalize World.setCells (w6.alloc _) _ _ _ = w8 at *
      go_wp2
      refine bodyPost_ret (results_cell_row rfl _ _ w.heap.size 65 OUT (0, 0) _ rfl (show Blk w8 w.heap.size OUT 65 by simpa using hR8) Try.underlying65 rfl (by rw [HSZ.out]; kernel_rfl)) rfl ⟨?_, hb8⟩
      rw [← HOUT.out, ← HM.out, sumB, seal7, absAll_pad, HS.out]
      rfl
end Go.Proofs.Ythpjihiikkhcjaa
