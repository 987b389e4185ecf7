/-
  A part of the proofs of this seat: laws of the walk, or contracts of the functions that the statements reach. No conditions but those that each theorem names.
-/
import Derived.Test.YthpjihiikkhcjaaK
namespace Go.Proofs.Ythpjihiikkhcjaa
open Go.RowKit Go.Sp
set_option maxRecDepth 100000 in
set_option maxHeartbeats 2000000 in
theorem mac_any (kv v : Value) (key : List UInt8) (ls : List (List UInt8)) (w : World) (hk : Byt w kv key) (hL : Lst w v ls) (hkl : key.length ≤ 549755813888) (hls : ∀ l ∈ ls, l.length ≤ 549755813888) :
    Calls Try.prog 39 #[kv, v] w fun e w' => e = .returned (.agg ((macB key ls).map B).toArray) ∧ Below w.heap.size w w' := by
  have HLS := Lib.hid hls
  clear hls
  go_enter Try.func39, Try.ntmps39
  go_wp2_with fail
  refine (new_any kv key _ (hk.ext ((Below.refl _ _).alloc (Nat.le_refl _) _)) hkl).mono ?_
  rintro e w1 ⟨p, wv, rfl, hp1, hb1, hB1, hY1, hN1⟩
  simp only [World.size_alloc] at hp1
  have hR1 : Blk w1 w.heap.size ((List.replicate 16 (0 : UInt8)).map B).toArray 65 := (Blk.new w _ 65).ext hb1
  have hbw : Below w.heap.size w w1 := ((Below.refl _ _).alloc (Nat.le_refl _) _).trans (hb1.mono (by simp))
  have hL1 := hL
  clear hb1 hk hL
  go_wp2_with fail
  refine (put_any p _ wv v ls w w1 hB1 hY1 hN1 hL1 hbw (by omega) HLS.out).mono ?_
  rintro e w2 ⟨rfl, hO2⟩
  have hR2 := hR1.only hO2 (by omega)
  have hb2 : Below w.heap.size w w2 := hbw.trans (hO2.below (by omega) (by have := hbw.size; omega))
  have hsz16 : ((sumB (keyS key) (flat ls)).map B).toArray.size = 16 := by simp [sumB_length]
  have HSZ := Lib.hid hsz16
  have HONE := Lib.hid (bytes_one (sumB (keyS key) (flat ls)))
  have hOUT : ((macB key ls).map B).toArray = ((sumB (keyS key) (flat ls)).map B).toArray := rfl
  clear hsz16 hO2 hR1 hB1 hY1 hN1 hL1
  generalize ((sumB (keyS key) (flat ls)).map B).toArray = OUT at *
  have HOUT := Lib.hid hOUT
  clear hOUT
  go_wp2_with (refine (show wpList _ _ _ (⟨none, .store 65 (.tmp 4) (.tmp 8), _, _, _, _⟩ :: _) _ _ from stop_here ?_))
  refine Stop.go (wpList_store_blk rfl rfl rfl rfl hR2 (by rw [HSZ.out]; rfl) (by rw [HSZ.out]; kernel_rfl) HONE.out ?_)
  intro w3 hR3 hO3
  have hb3 : Below w.heap.size w w3 := hb2.trans (hO3.below (Nat.le_refl _) hb2.size)
  clear hO3 hR2 hb2
  go_wp2
  exact bodyPost_ret (results_cell_row rfl _ _ w.heap.size 65 OUT (0, 0) _ rfl hR3 Try.underlying65 rfl (by rw [HSZ.out]; kernel_rfl)) rfl ⟨by rw [HOUT.out], hb3⟩
end Go.Proofs.Ythpjihiikkhcjaa
