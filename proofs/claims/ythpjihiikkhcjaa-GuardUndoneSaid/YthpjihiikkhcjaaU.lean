/-
  A part of the proofs of this seat: laws of the walk, or contracts of the functions that the statements reach. No conditions but those that each theorem names.
-/
import Derived.Test.YthpjihiikkhcjaaS
namespace Go.Sp
theorem macB_raw (key : List UInt8) (ls : List (List UInt8)) : macB key ls = rawB key (flat ls) := (rawB_eq _ _).symm
theorem rawB_length (key b : List UInt8) : (rawB key b).length = 16 := outB_length _
end Go.Sp
namespace Go.Proofs.Ythpjihiikkhcjaa
open Go.RowKit Go.Sp
set_option maxRecDepth 100000 in
set_option maxHeartbeats 2000000 in
theorem rmac_any (kv v : Value) (key : List UInt8) (ls : List (List UInt8)) (w : World) (hk : Byt w kv key) (hkl : key.length ≤ 549755813888) (hL : Lst w v ls) (hfl : (flat ls).length ≤ 549755813888) :
    Calls Try.prog 45 #[kv, v] w fun e w' => e = .returned (.agg ((macB key ls).map B).toArray) ∧ Below w.heap.size w w' := by
  have HFL := Lib.hid hfl
  go_enter Try.func45, Try.ntmps45
  go_wp2_with fail
  refine (parts_any v ls _ (hL.ext ((Below.refl _ _).alloc (Nat.le_refl _) _)) hfl).mono ?_
  rintro _ w1 ⟨v1, rfl, ho1, hb1⟩
  have hR1 : Blk w1 w.heap.size ((List.replicate 16 (0 : UInt8)).map B).toArray 65 := (Blk.new w _ 65).ext hb1
  have hbw : Below w.heap.size w w1 := ((Below.refl _ _).alloc (Nat.le_refl _) _).trans (hb1.mono (by simp))
  clear hb1 hfl hL
  go_wp2_with fail
  refine (raw_any kv v1 key (flat ls) _ (hk.ext hbw) ho1.byt hkl HFL.out).mono ?_
  rintro _ w2 ⟨rfl, hb2⟩
  have hR2 := hR1.ext hb2
  have hb3 := hbw.trans (hb2.mono hbw.size)
  have hsz16 : ((rawB key (flat ls)).map B).toArray.size = 16 := by simp [rawB_length]
  have HSZ := Lib.hid hsz16
  have HONE := Lib.hid (bytes_one (rawB key (flat ls)))
  have hOUT : ((macB key ls).map B).toArray = ((rawB key (flat ls)).map B).toArray := by rw [macB_raw]
  clear hsz16 hb2 hR1 hbw ho1
  generalize ((rawB key (flat ls)).map B).toArray = OUT at *
  have HOUT := Lib.hid hOUT
  clear hOUT
  go_wp2_with (refine (show wpList _ _ _ (⟨none, .store 65 (.tmp 4) (.tmp 8), _, _, _, _⟩ :: _) _ _ from stop_here ?_))
  refine Stop.go (wpList_store_blk rfl rfl rfl rfl hR2 (by rw [HSZ.out]; rfl) (by rw [HSZ.out]; kernel_rfl) HONE.out ?_)
  intro w3 hR3 hO3
  have hb4 : Below w.heap.size w w3 := hb3.trans (hO3.below (Nat.le_refl _) hb3.size)
  clear hO3 hR2 hb3
  go_wp2
  exact bodyPost_ret (results_cell_row rfl _ _ w.heap.size 65 OUT (0, 0) _ rfl hR3 Try.underlying65 rfl (by rw [HSZ.out]; kernel_rfl)) rfl ⟨by rw [HOUT.out], hb4⟩
end Go.Proofs.Ythpjihiikkhcjaa
