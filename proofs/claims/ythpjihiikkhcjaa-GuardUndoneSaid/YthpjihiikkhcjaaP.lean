/-
  A part of the proofs of this seat: laws of the walk, or contracts of the functions that the statements reach. No conditions but those that each theorem names.
-/
import Derived.Test.YthpjihiikkhcjaaO
import Derived.Test.YthpjihiikkhcjaaA2
namespace Go.Proofs.Ythpjihiikkhcjaa
open Go.RowKit Go.Sp
set_option maxRecDepth 100000 in
set_option maxHeartbeats 2000000 in
theorem rmix_any (s : S8) (w : World) :
    Calls Try.prog 63 #[.agg #[W s.a, W s.b, W s.c, W s.d, W s.e, W s.f, W s.g, W s.h]] w fun e w' => e = .returned (.agg (mix s).vals) ∧ Below w.heap.size w w' := by
  go_enter Try.func63, Try.ntmps63
  go_wp2
  go_loopw [3] (fun r wr => ∃ k : Nat, k ≤ 8 ∧ r = .int .i64 ((k : Int) + 1) ∧ Blk wr w.heap.size (mixN s k).vals 25 ∧ Blk wr (w.heap.size + 1) S8.zero.vals 25 ∧ Below w.heap.size w wr) (fun r _ => (9 - intOf r).toNat)
  case atStart => exact ⟨0, by omega, rfl, (Blk.new w _ 25).alloc _, Blk.newAt (by simp) S8.zero.vals 25, ((Below.refl _ _).alloc (Nat.le_refl _) _).alloc (by simp) _⟩
  case round =>
    obtain ⟨k, hk, rfl, hB, hR, hb⟩ := hrel
    have hs : mixN s (k + 1) = mixStep (w32 ((k : Int) + 1)) (mixN s k) := rfl
    have HS := Lib.hid hs
    clear hs
    generalize hm : mixN s k = m at *
    have HM := Lib.hid hm
    clear hm
    obtain ⟨a, b, c, d, e, f, g, h⟩ := m
    have hbc := hB.cell
    have hbf := hB.frozen
    have hpl := hB.lt
    simp only [S8.vals] at hbc
    by_cases h8 : k < 8
    · have h9 : ((k : Int) + 1) ≤ 8 := by omega
      go_wp2_with fail
      have hB1 := hB.set 0 (W (a ^^^ w32 ((k : Int) + 1)))
      have hR1 := hR.setOther ⟨w.heap.size, 0, none⟩ (W (a ^^^ w32 ((k : Int) + 1))) (by simp)
      have hb1 := hb.setCell (p := ⟨w.heap.size, 0, none⟩) (Nat.le_refl _) (W (a ^^^ w32 ((k : Int) + 1)))
      clear hbc hbf hB hR hb
      refine (rquarter_1 ⟨a ^^^ w32 ((k : Int) + 1), b, c, d, e, f, g, h⟩ _).mono ?_
      rintro _ w1 ⟨rfl, h1⟩
      have hB2 := hB1.ext h1
      have hR2 := hR1.ext h1
      have hb2 := hb1.trans (Below.mono h1 (by have := hb1.size; simpa using this))
      clear hB1 hR1 hb1 h1
      obtain ⟨q1, hq1⟩ : ∃ q, q = quarter (a ^^^ w32 ((k : Int) + 1)) b c d := ⟨_, rfl⟩
      simp only [← hq1]
      have HQ1 := Lib.hid hq1
      clear hq1
      go_wp2_with fail
      refine (rquarter_2 ⟨q1.1, q1.2.1, q1.2.2.1, q1.2.2.2, e, f, g, h⟩ _).mono ?_
      rintro _ w2 ⟨rfl, h1⟩
      have hB1 := hB2.ext h1
      have hR1 := hR2.ext h1
      have hb1 := hb2.trans (Below.mono h1 hb2.size)
      clear hB2 hR2 hb2 h1
      obtain ⟨q2, hq2⟩ : ∃ q, q = quarter e f g h := ⟨_, rfl⟩
      simp only [← hq2]
      have HQ2 := Lib.hid hq2
      clear hq2
      go_wp2_with fail
      refine (rquarter_3 ⟨q1.1, q1.2.1, q1.2.2.1, q1.2.2.2, q2.1, q2.2.1, q2.2.2.1, q2.2.2.2⟩ _).mono ?_
      rintro _ w3 ⟨rfl, h1⟩
      have hB2 := hB1.ext h1
      have hR2 := hR1.ext h1
      have hb2 := hb1.trans (Below.mono h1 hb1.size)
      clear hB1 hR1 hb1 h1
      obtain ⟨q3, hq3⟩ : ∃ q, q = quarter q1.1 q2.2.1 q1.2.2.1 q2.2.2.2 := ⟨_, rfl⟩
      simp only [← hq3]
      have HQ3 := Lib.hid hq3
      clear hq3
      go_wp2_with fail
      refine (rquarter_4 ⟨q3.1, q1.2.1, q3.2.2.1, q1.2.2.2, q2.1, q3.2.1, q2.2.2.1, q3.2.2.2⟩ _).mono ?_
      rintro _ w4 ⟨rfl, h1⟩
      have hB1 := hB2.ext h1
      have hR1 := hR2.ext h1
      have hb1 := hb2.trans (Below.mono h1 hb2.size)
      clear hB2 hR2 hb2 h1
      obtain ⟨q4, hq4⟩ : ∃ q, q = quarter q2.1 q1.2.1 q2.2.2.1 q1.2.2.2 := ⟨_, rfl⟩
      simp only [← hq4]
      have HQ4 := Lib.hid hq4
      clear hq4
      go_wp2_with (refine (show wpList _ _ _ (⟨none, .store 25 (.tmp 1) (.tmp 18), _, _, _, _⟩ :: _) _ _ from stop_here ?_))
      refine Stop.go (wpList_store_blk (out := S8.vals ⟨q3.1, q4.2.1, q3.2.2.1, q4.2.2.2, q4.1, q3.2.1, q4.2.2.1, q3.2.2.2⟩) rfl rfl rfl rfl hB1 (by simp [S8.vals]) (by kernel_rfl) (vals_one _) ?_)
      intro w5 hB2 hO
      have hR2 := hR1.only hO (by omega)
      have hb2 := hb1.trans (hO.below (Nat.le_refl _) hb1.size)
      clear hB1 hR1 hb1 hO
      go_wp2
      go_roundw
      case rel =>
        refine ⟨k + 1, by omega, by go_num, ?_, hR2, hb2⟩
        rw [HS.out, mixStep]
        simp only [← HQ1.out, ← HQ2.out, ← HQ3.out, ← HQ4.out]
        exact hB2
      case measure => simp [intOf]; omega
    · have h9 : ¬ ((k : Int) + 1) ≤ 8 := by omega
      obtain rfl : k = 8 := by omega
      go_wp2_with (refine (show wpList _ _ _ (⟨none, .store 25 (.tmp 2) (.tmp 19), _, _, _, _⟩ :: _) _ _ from stop_here ?_))
      refine Stop.go (wpList_store_blk (out := S8.vals ⟨a, b, c, d, e, f, g, h⟩) rfl rfl rfl rfl hR (by simp [S8.vals]) (by kernel_rfl) (vals_one _) ?_)
      intro w5 hR2 hO
      have hb2 := hb.trans (hO.below (by omega) hb.size)
      clear hbc hbf hR hO hb hB
      go_wp2
      exact bodyPost_ret (results_cell_row rfl _ _ (w.heap.size + 1) 25 _ (0, 0) _ rfl hR2 Try.underlying25 rfl (by kernel_rfl)) rfl ⟨by rw [show mix s = _ from HM.out], hb2⟩
end Go.Proofs.Ythpjihiikkhcjaa
