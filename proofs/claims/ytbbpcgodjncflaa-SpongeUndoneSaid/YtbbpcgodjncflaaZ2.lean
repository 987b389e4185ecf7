/-
  A part of the proofs of this seat: laws of the walk, or contracts of the functions that the statements reach. No conditions but those that each theorem names.
-/
import Derived.Test.YtbbpcgodjncflaaZ
namespace Go.Sp
open Go.RowKit
theorem shl_bv (x : UInt32) (n : Nat) : (shl x n).toBitVec = x.toBitVec <<< n := by
  apply BitVec.eq_of_toNat_eq
  unfold shl
  rw [BitVec.toNat_shiftLeft, Nat.shiftLeft_eq]
  simp
theorem shr_bv (x : UInt32) (n : Nat) : (shr x n).toBitVec = x.toBitVec >>> n := by
  apply BitVec.eq_of_toNat_eq
  unfold shr
  rw [BitVec.toNat_ushiftRight, Nat.shiftRight_eq_div_pow]
  simp
  exact Nat.lt_of_le_of_lt (Nat.div_le_self _ _) (u32_lt x)
theorem rot_back (x : UInt32) (n : Nat) (hn : 0 < n) (hn' : n < 32) : rotr (rotl x n) n = x := by
  apply UInt32.toBitVec_inj.1
  unfold rotr rotl
  simp only [UInt32.toBitVec_or, shl_bv, shr_bv]
  apply BitVec.eq_of_getLsbD_eq
  intro i hi
  simp only [BitVec.getLsbD_or, BitVec.getLsbD_ushiftRight, BitVec.getLsbD_shiftLeft]
  by_cases h : i < 32 - n
  · have e1 : n + i < 32 := by omega
    have e2 : ¬ (n + i < n) := by omega
    have e3 : n + i - n = i := by omega
    have e4 : x.toBitVec.getLsbD (32 - n + (n + i)) = false := BitVec.getLsbD_of_ge _ _ (by omega)
    simp [e1, e3, e4, h]
  · have e1 : ¬ (n + i < 32) := by omega
    have e5 : i - (32 - n) < 32 := by omega
    have e6 : i - (32 - n) < n := by omega
    have e7 : 32 - n + (i - (32 - n)) = i := by omega
    have e8 : x.toBitVec.getLsbD (32 - n + (n + i)) = false := BitVec.getLsbD_of_ge _ _ (by omega)
    simp [e1, h, e5, e6, e7, e8, hi]
theorem unq_quarter (a b c d : UInt32) : unq (quarter a b c d).1 (quarter a b c d).2.1 (quarter a b c d).2.2.1 (quarter a b c d).2.2.2 = (a, b, c, d) := by
  have h7 := fun x => rot_back x 7 (by decide) (by decide)
  have h8 := fun x => rot_back x 8 (by decide) (by decide)
  have h12 := fun x => rot_back x 12 (by decide) (by decide)
  have h16 := fun x => rot_back x 16 (by decide) (by decide)
  simp [unq, quarter, h7, h8, h12, h16, UInt32.xor_assoc]
end Go.Sp
namespace Go.Proofs.Ytbbpcgodjncflaa
open Go.RowKit Go.Sp
set_option maxRecDepth 100000 in
set_option maxHeartbeats 2000000 in
theorem back_any (s : S8) (w : World) :
    Calls Try.prog 18 #[.agg (mix s).vals] w fun e w' => e = .returned (.agg s.vals) ∧ Below w.heap.size w w' := by
  obtain ⟨M, hM⟩ : ∃ M, M = mix s := ⟨_, rfl⟩
  rw [← hM]
  have HM := Lib.hid hM
  clear hM
  show Calls Try.prog 18 #[.agg #[W M.a, W M.b, W M.c, W M.d, W M.e, W M.f, W M.g, W M.h]] w _
  go_enter Try.func18, Try.ntmps18
  go_wp2
  go_loopw [3] (fun r wr => ∃ k : Nat, k ≤ 8 ∧ r = .int .i64 k ∧ Blk wr w.heap.size (mixN s k).vals 25 ∧ Blk wr (w.heap.size + 1) S8.zero.vals 25 ∧ Below w.heap.size w wr) (fun r _ => (intOf r).toNat)
  case atStart =>
    refine ⟨8, by omega, rfl, ?_, Blk.newAt (by simp) S8.zero.vals 25, ((Below.refl _ _).alloc (Nat.le_refl _) _).alloc (by simp) _⟩
    rw [show mixN s 8 = M from HM.out.symm]
    exact (Blk.new w M.vals 25).alloc _
  case round =>
    obtain ⟨k, hk, rfl, hB, hR, hb⟩ := hrel
    cases k with
    | zero =>
      go_wp2_with (refine (show wpList _ _ _ (⟨some 22, .load 25 (.tmp 1), _, _, _, _⟩ :: _) _ _ from stop_here ?_))
      refine Stop.go (wpList_load_row rfl 25 (.tmp 1) rfl w.heap.size rfl 25 _ (0, 0) _ hB Try.underlying25 rfl (by kernel_rfl) ?_)
      go_wp2_with (refine (show wpList _ _ _ (⟨none, .store 25 (.tmp 2) (.tmp 22), _, _, _, _⟩ :: _) _ _ from stop_here ?_))
      refine Stop.go (wpList_store_blk rfl rfl rfl rfl hR rfl (by kernel_rfl) (vals_one _) ?_)
      intro w3 hR3 hO3
      have hb3 := hb.trans (hO3.below (by omega) hb.size)
      clear hO3 hR hB hb
      go_wp2
      exact bodyPost_ret (results_cell_row rfl _ _ (w.heap.size + 1) 25 _ (0, 0) _ rfl hR3 Try.underlying25 rfl (by kernel_rfl)) rfl ⟨rfl, hb3⟩
    | succ k =>
      have hs : mixN s (k + 1) = mixStep (w32 ((k : Int) + 1)) (mixN s k) := rfl
      have h1 : (1 : Int) ≤ (k : Int) + 1 := by omega
      have hcast : ((k + 1 : Nat) : Int) = (k : Int) + 1 := by omega
      rw [hcast]
      clear hcast
      rw [hs] at hB
      clear hs
      generalize hm : mixN s k = m at *
      have HM2 := Lib.hid hm
      clear hm
      obtain ⟨q1, hq1⟩ : ∃ q, q = quarter (m.a ^^^ w32 ((k : Int) + 1)) m.b m.c m.d := ⟨_, rfl⟩
      obtain ⟨q2, hq2⟩ : ∃ q, q = quarter m.e m.f m.g m.h := ⟨_, rfl⟩
      obtain ⟨q3, hq3⟩ : ∃ q, q = quarter q1.1 q2.2.1 q1.2.2.1 q2.2.2.2 := ⟨_, rfl⟩
      obtain ⟨q4, hq4⟩ : ∃ q, q = quarter q2.1 q1.2.1 q2.2.2.1 q1.2.2.2 := ⟨_, rfl⟩
      have u1 := unq_quarter (m.a ^^^ w32 ((k : Int) + 1)) m.b m.c m.d
      have u2 := unq_quarter m.e m.f m.g m.h
      have u3 := unq_quarter q1.1 q2.2.1 q1.2.2.1 q2.2.2.2
      have u4 := unq_quarter q2.1 q1.2.1 q2.2.2.1 q1.2.2.2
      rw [← hq1] at u1; rw [← hq2] at u2; rw [← hq3] at u3; rw [← hq4] at u4
      have hv : mixStep (w32 ((k : Int) + 1)) m = ⟨q3.1, q4.2.1, q3.2.2.1, q4.2.2.2, q4.1, q3.2.1, q4.2.2.1, q3.2.2.2⟩ := by rw [hq4, hq3, hq2, hq1]; rfl
      rw [hv] at hB
      have U1 := Lib.hid u1
      have U2 := Lib.hid u2
      have U3 := Lib.hid u3
      have U4 := Lib.hid u4
      clear hv u1 u2 u3 u4 hq1 hq2 hq3 hq4
      go_wp2_with (refine (show wpList _ _ _ (⟨some 8, .load 25 (.tmp 1), _, _, _, _⟩ :: _) _ _ from stop_here ?_))
      refine Stop.go (wpList_load_row rfl 25 (.tmp 1) rfl w.heap.size rfl 25 _ (0, 0) _ hB Try.underlying25 rfl (by kernel_rfl) ?_)
      go_wp2_with fail
      refine (undo_1 ⟨q3.1, q4.2.1, q3.2.2.1, q4.2.2.2, q4.1, q3.2.1, q4.2.2.1, q3.2.2.2⟩ _).mono ?_
      rintro _ v0 ⟨rfl, hx⟩
      replace hB := hB.ext hx
      replace hR := hR.ext hx
      replace hb := hb.trans (hx.mono hb.size)
      clear hx
      rw [U4.out]
      go_wp2_with (refine (show wpList _ _ _ (⟨none, .store 25 (.tmp 1) (.tmp 9), _, _, _, _⟩ :: _) _ _ from stop_here ?_))
      refine Stop.go (wpList_store_blk (out := (S8.mk q3.1 q1.2.1 q3.2.2.1 q1.2.2.2 q2.1 q3.2.1 q2.2.2.1 q3.2.2.2).vals) rfl rfl rfl rfl hB rfl (by kernel_rfl) (vals_one _) ?_)
      intro y0 hB' hO'
      replace hR := hR.only hO' (by omega)
      replace hb := hb.trans (hO'.below (Nat.le_refl _) hb.size)
      clear hB hO'
      replace hB := hB'
      clear hB'
      go_wp2_with (refine (show wpList _ _ _ (⟨some 10, .load 25 (.tmp 1), _, _, _, _⟩ :: _) _ _ from stop_here ?_))
      refine Stop.go (wpList_load_row rfl 25 (.tmp 1) rfl w.heap.size rfl 25 _ (0, 0) _ hB Try.underlying25 rfl (by kernel_rfl) ?_)
      go_wp2_with fail
      refine (undo_2 ⟨q3.1, q1.2.1, q3.2.2.1, q1.2.2.2, q2.1, q3.2.1, q2.2.2.1, q3.2.2.2⟩ _).mono ?_
      rintro _ v1 ⟨rfl, hx⟩
      replace hB := hB.ext hx
      replace hR := hR.ext hx
      replace hb := hb.trans (hx.mono hb.size)
      clear hx
      rw [U3.out]
      go_wp2_with (refine (show wpList _ _ _ (⟨none, .store 25 (.tmp 1) (.tmp 11), _, _, _, _⟩ :: _) _ _ from stop_here ?_))
      refine Stop.go (wpList_store_blk (out := (S8.mk q1.1 q1.2.1 q1.2.2.1 q1.2.2.2 q2.1 q2.2.1 q2.2.2.1 q2.2.2.2).vals) rfl rfl rfl rfl hB rfl (by kernel_rfl) (vals_one _) ?_)
      intro y1 hB' hO'
      replace hR := hR.only hO' (by omega)
      replace hb := hb.trans (hO'.below (Nat.le_refl _) hb.size)
      clear hB hO'
      replace hB := hB'
      clear hB'
      go_wp2_with (refine (show wpList _ _ _ (⟨some 12, .load 25 (.tmp 1), _, _, _, _⟩ :: _) _ _ from stop_here ?_))
      refine Stop.go (wpList_load_row rfl 25 (.tmp 1) rfl w.heap.size rfl 25 _ (0, 0) _ hB Try.underlying25 rfl (by kernel_rfl) ?_)
      go_wp2_with fail
      refine (undo_3 ⟨q1.1, q1.2.1, q1.2.2.1, q1.2.2.2, q2.1, q2.2.1, q2.2.2.1, q2.2.2.2⟩ _).mono ?_
      rintro _ v2 ⟨rfl, hx⟩
      replace hB := hB.ext hx
      replace hR := hR.ext hx
      replace hb := hb.trans (hx.mono hb.size)
      clear hx
      rw [U2.out]
      go_wp2_with (refine (show wpList _ _ _ (⟨none, .store 25 (.tmp 1) (.tmp 13), _, _, _, _⟩ :: _) _ _ from stop_here ?_))
      refine Stop.go (wpList_store_blk (out := (S8.mk q1.1 q1.2.1 q1.2.2.1 q1.2.2.2 m.e m.f m.g m.h).vals) rfl rfl rfl rfl hB rfl (by kernel_rfl) (vals_one _) ?_)
      intro y2 hB' hO'
      replace hR := hR.only hO' (by omega)
      replace hb := hb.trans (hO'.below (Nat.le_refl _) hb.size)
      clear hB hO'
      replace hB := hB'
      clear hB'
      go_wp2_with (refine (show wpList _ _ _ (⟨some 14, .load 25 (.tmp 1), _, _, _, _⟩ :: _) _ _ from stop_here ?_))
      refine Stop.go (wpList_load_row rfl 25 (.tmp 1) rfl w.heap.size rfl 25 _ (0, 0) _ hB Try.underlying25 rfl (by kernel_rfl) ?_)
      go_wp2_with fail
      refine (undo_4 ⟨q1.1, q1.2.1, q1.2.2.1, q1.2.2.2, m.e, m.f, m.g, m.h⟩ _).mono ?_
      rintro _ v3 ⟨rfl, hx⟩
      replace hB := hB.ext hx
      replace hR := hR.ext hx
      replace hb := hb.trans (hx.mono hb.size)
      clear hx
      rw [U1.out]
      go_wp2_with (refine (show wpList _ _ _ (⟨none, .store 25 (.tmp 1) (.tmp 15), _, _, _, _⟩ :: _) _ _ from stop_here ?_))
      refine Stop.go (wpList_store_blk (out := (S8.mk (m.a ^^^ w32 ((k : Int) + 1)) m.b m.c m.d m.e m.f m.g m.h).vals) rfl rfl rfl rfl hB rfl (by kernel_rfl) (vals_one _) ?_)
      intro y3 hB' hO'
      replace hR := hR.only hO' (by omega)
      replace hb := hb.trans (hO'.below (Nat.le_refl _) hb.size)
      clear hB hO'
      replace hB := hB'
      clear hB'
      have hbc := hB.cell
      have hbf := hB.frozen
      simp only [S8.vals] at hbc
      go_wp2
      go_roundw
      case rel =>
        refine ⟨k, by omega, by go_num, ?_, hR.setOther ⟨w.heap.size, 0, none⟩ _ (by simp), hb.setCell (p := ⟨w.heap.size, 0, none⟩) (Nat.le_refl _) _⟩
        have := hB.set 0 (W (m.a ^^^ w32 ((k : Int) + 1) ^^^ w32 ((k : Int) + 1)))
        rw [UInt32.xor_assoc, UInt32.xor_self, UInt32.xor_zero] at this
        rw [HM2.out]
        simp only [UInt32.xor_assoc, UInt32.xor_self, UInt32.xor_zero]
        exact this
      case measure => simp [intOf]
end Go.Proofs.Ytbbpcgodjncflaa
