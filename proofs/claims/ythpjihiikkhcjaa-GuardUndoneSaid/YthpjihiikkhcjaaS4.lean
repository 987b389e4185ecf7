/-
  A part of the proofs of this seat: laws of the walk, or contracts of the functions that the statements reach. No conditions but those that each theorem names.
-/
import Derived.Test.YthpjihiikkhcjaaS3
namespace Go.Sp
theorem undone_plain (t a T k b : Int) (ht : 0 ≤ t ∧ t ≤ 5) (ha : 0 ≤ a ∧ a ≤ 499) (hT : 0 ≤ T ∧ T ≤ 599) (h : tokM t a T = (k, b)) (hk : 1 ≤ k) :
    tokM (min ((tokM (k - 1) b T).1 + 1) 5) (tokM (k - 1) b T).2 T = (k, b) ∧ 0 ≤ (tokM (k - 1) b T).1 ∧ (tokM (k - 1) b T).1 ≤ 5 ∧ 0 ≤ (tokM (k - 1) b T).2 ∧ (tokM (k - 1) b T).2 ≤ 999 ∧ 0 ≤ b ∧ b ≤ 999 ∧ k ≤ 5 := by
  unfold tokM at h
  by_cases c1 : T ≤ a
  · rw [if_pos c1] at h
    obtain ⟨rfl, rfl⟩ := Prod.mk.inj h
    have e : tokM (t - 1) a T = (t - 1, a) := by unfold tokM; rw [if_pos c1]
    rw [e]
    simp only
    have e2 : min (t - 1 + 1) 5 = t := by omega
    rw [e2]
    exact ⟨by unfold tokM; rw [if_pos c1], by omega, by omega, by omega, by omega, by omega, by omega, by omega⟩
  · rw [if_neg c1] at h
    by_cases c2 : max 0 (min (t + min ((T - a) / 10) 5) 5) = 5
    · rw [if_pos c2] at h
      obtain ⟨rfl, rfl⟩ := Prod.mk.inj h
      have e : tokM (5 - 1) T T = (4, T) := by unfold tokM; rw [if_pos (by omega)]; rfl
      rw [e]
      simp only
      exact ⟨by unfold tokM; rw [if_pos (by omega)]; rfl, by omega, by omega, by omega, by omega, by omega, by omega, by omega⟩
    · rw [if_neg c2] at h
      obtain ⟨h1, h2⟩ := Prod.mk.inj h
      by_cases c3 : T ≤ b
      · have e : tokM (k - 1) b T = (k - 1, b) := by unfold tokM; rw [if_pos c3]
        rw [e]
        simp only
        have e2 : min (k - 1 + 1) 5 = k := by omega
        rw [e2]
        exact ⟨by unfold tokM; rw [if_pos c3], by omega, by omega, by omega, by omega, by omega, by omega, by omega⟩
      · have hn0 : (T - b) / 10 = 0 := by omega
        have e : tokM (k - 1) b T = (k - 1, b) := by
          unfold tokM
          rw [if_neg c3, hn0, if_neg (by omega)]
          simp only [Prod.mk.injEq]
          omega
        rw [e]
        simp only
        have e2 : min (k - 1 + 1) 5 = k := by omega
        rw [e2]
        refine ⟨?_, by omega, by omega, by omega, by omega, by omega, by omega, by omega⟩
        unfold tokM
        rw [if_neg c3, hn0, if_neg (by omega)]
        simp only [Prod.mk.injEq]
        omega
end Go.Sp
namespace Go.Proofs.Ythpjihiikkhcjaa
open Go.RowKit Go.Sp
set_option maxRecDepth 100000 in
set_option maxHeartbeats 4000000 in
theorem undone_any (n at_ b : Int) (w : World) (hn : -9223372036854775808 ≤ n ∧ n ≤ 9223372036854775807) (hat : -9223372036854775808 ≤ at_ ∧ at_ ≤ 9223372036854775807) (hb : -9223372036854775808 ≤ b ∧ b ≤ 9223372036854775807) :
    Calls Try.prog 14 #[.int .i64 n, .int .i64 at_, .int .i64 b] w fun e w' => e = .returned (.bool true) ∧ Below w.heap.size w w' := by
  go_enter Try.func14, Try.ntmps14
  go_wp2_with fail
  refine (known_any _).mono ?_
  rintro _ w1 ⟨rfl, hbw1⟩
  go_wp2_with fail
  refine (bucketrow_any n at_ _ hn hat).mono ?_
  rintro _ w2 ⟨rfl, hb2⟩
  have hbw2 := hbw1.trans (hb2.mono hbw1.size)
  have ht6 : 0 ≤ n % 6 ∧ n % 6 ≤ 5 := by omega
  have ha5 : 0 ≤ at_ % 500 ∧ at_ % 500 ≤ 499 := by omega
  generalize n % 6 = t at *
  generalize at_ % 500 = a0 at *
  clear hb2 hbw1
  go_wp2_with (refine (show wpList _ _ _ (⟨none, .store 28 (.tmp 7) (.tmp 20), _, _, _, _⟩ :: _) _ _ from stop_here ?_))
  refine Stop.go (wpList_store_blk rfl rfl rfl rfl (Blk.new w2 _ 28) rfl (size28 _ _ _ _ _) (by simp [recV, Value.oneCell']) ?_)
  intro w3 hR3 hO3
  have hb3 : Below w2.heap.size w2 w3 := ((Below.refl _ _).alloc (Nat.le_refl _) _).trans (hO3.below (Nat.le_refl _) (by simp))
  have hbw3 := hbw2.trans (hb3.mono hbw2.size)
  have hl3 := hR3.lt
  clear hO3 hb3 hbw2
  go_wp2_with fail
  refine (within_any b 600 hb (by decide) (by decide) _).mono ?_
  rintro _ wx ⟨rfl, rfl⟩
  have hT : 0 ≤ b % 600 ∧ b % 600 ≤ 599 := by omega
  generalize b % 600 = T at *
  obtain ⟨k, hk⟩ : ∃ k, k = (tokM t a0 T).1 := ⟨_, rfl⟩
  obtain ⟨e, he⟩ : ∃ e, e = (tokM t a0 T).2 := ⟨_, rfl⟩
  have hke : tokM t a0 T = (k, e) := by rw [hk, he]
  have HKE := Lib.hid hke
  clear hk he hke
  go_wp2_with (refine (show wpList _ _ _ (⟨some 24, .load 28 (.tmp 7), _, _, _, _⟩ :: _) _ _ from stop_here ?_))
  refine Stop.go (wpList_val rfl (r_loadBlk rfl hR3 Try.underlying28 rfl (size28 _ _ _ _ _)) ?_)
  go_wp2_with fail
  refine (charge_any 1 _ t a0 0 T _ ht6 (by omega) (by omega)).mono ?_
  rintro _ w6 ⟨rfl, hb6⟩
  have hR6 := hR3.ext hb6
  have hbw6 := hbw3.trans (hb6.mono hbw3.size)
  clear hb6 hR3 hbw3
  have hcM : chM 1 ⟨#[117]⟩ t a0 0 T = if k < 1 then (recV 0 ⟨#[]⟩ 0 0 0, false) else (recV 1 ⟨#[117]⟩ (k - 1) e 0, true) := by unfold chM; rw [HKE.out]
  have HCM := Lib.hid hcM
  clear hcM
  have hl6 := hR6.lt
  by_cases hk1 : k < 1
  · rw [HCM.out, if_pos hk1]
    go_wp2_with (refine (show wpList _ _ _ (⟨none, .store 28 (.tmp 9) (.tmp 27), _, _, _, _⟩ :: _) _ _ from stop_here ?_))
    refine Stop.go (wpList_store_blk rfl rfl rfl rfl (Blk.new w6 _ 28) rfl (size28 _ _ _ _ _) (by simp [recV, Value.oneCell']) ?_)
    intro w7 hS7 hO7
    have hb7 : Below w6.heap.size w6 w7 := ((Below.refl _ _).alloc (Nat.le_refl _) _).trans (hO7.below (Nat.le_refl _) (by simp))
    have hbw7 := hbw6.trans (hb7.mono hbw6.size)
    clear hO7 hb7 hR6 hbw6 hS7
    go_wp2
    go_ret
    exact ⟨rfl, hbw7⟩
  · rw [HCM.out, if_neg hk1]
    obtain ⟨q1, q2, q3, q4, q5, q6, q7, q8⟩ := undone_plain t a0 T k e ht6 ha5 hT HKE.out (by omega)
    go_wp2_with (refine (show wpList _ _ _ (⟨none, .store 28 (.tmp 9) (.tmp 27), _, _, _, _⟩ :: _) _ _ from stop_here ?_))
    refine Stop.go (wpList_store_blk rfl rfl rfl rfl (Blk.new w6 _ 28) rfl (size28 _ _ _ _ _) (by simp [recV, Value.oneCell']) ?_)
    intro w7 hS7 hO7
    have hb7 : Below w6.heap.size w6 w7 := ((Below.refl _ _).alloc (Nat.le_refl _) _).trans (hO7.below (Nat.le_refl _) (by simp))
    have hR7 := hR6.ext hb7
    have hbw7 := hbw6.trans (hb7.mono hbw6.size)
    clear hO7 hb7 hR6 hbw6
    have hl7 := hS7.lt
    go_wp2_with (refine (show wpList _ _ _ (⟨some 31, .load 28 (.tmp 9), _, _, _, _⟩ :: _) _ _ from stop_here ?_))
    refine Stop.go (wpList_val rfl (r_loadBlk rfl hS7 Try.underlying28 rfl (size28 _ _ _ _ _)) ?_)
    go_wp2_with fail
    refine (refund_any 1 _ (k - 1) e 0 T _ (by omega) (by omega) (by omega)).mono ?_
    rintro _ w8 ⟨rfl, hb8⟩
    rw [show rfM 1 ⟨#[117]⟩ (k - 1) e 0 T = recV 1 ⟨#[117]⟩ (min ((tokM (k - 1) e T).1 + 1) 5) (tokM (k - 1) e T).2 0 from rfl]
    generalize (tokM (k - 1) e T).1 = k2 at *
    generalize (tokM (k - 1) e T).2 = e2 at *
    have hk3 : 0 ≤ min (k2 + 1) 5 ∧ min (k2 + 1) 5 ≤ 5 := by omega
    generalize min (k2 + 1) 5 = k3 at *
    have HQ := Lib.hid q1
    have hR8 := hR7.ext hb8
    have hbw8 := hbw7.trans (hb8.mono hbw7.size)
    have hl8 := hR8.lt
    clear hb8 hR7 hbw7 hS7 q1 hl7
    go_wp2_with (refine (show wpList _ _ _ (⟨none, .store 28 (.tmp 11) (.tmp 33), _, _, _, _⟩ :: _) _ _ from stop_here ?_))
    refine Stop.go (wpList_store_blk rfl rfl rfl rfl (Blk.new w8 _ 28) rfl (size28 _ _ _ _ _) (by simp [recV, Value.oneCell']) ?_)
    intro w9 hS9 hO9
    have hb9 : Below w8.heap.size w8 w9 := ((Below.refl _ _).alloc (Nat.le_refl _) _).trans (hO9.below (Nat.le_refl _) (by simp))
    have hR9 := hR8.ext hb9
    have hbw9 := hbw8.trans (hb9.mono hbw8.size)
    clear hO9 hb9 hR8 hbw8
    go_wp2_with (refine (show wpList _ _ _ (⟨some 35, .load 28 (.tmp 7), _, _, _, _⟩ :: _) _ _ from stop_here ?_))
    refine Stop.go (wpList_val rfl (r_loadBlk rfl hR9 Try.underlying28 rfl (size28 _ _ _ _ _)) ?_)
    go_wp2_with fail
    refine (tokens_any 1 _ t a0 0 T _ ht6 (by omega) (by omega)).mono ?_
    rintro _ w10 ⟨rfl, hb10⟩
    rw [HKE.out]
    have hR10 := hR9.ext hb10
    have hS10 := hS9.ext hb10
    have hbw10 := hbw9.trans (hb10.mono hbw9.size)
    clear hb10 hR9 hbw9 hS9
    go_wp2_with (refine (show wpList _ _ _ (⟨some 41, .load 28 (.tmp 11), _, _, _, _⟩ :: _) _ _ from stop_here ?_))
    refine Stop.go (wpList_val rfl (r_loadBlk rfl hS10 Try.underlying28 rfl (size28 _ _ _ _ _)) ?_)
    go_wp2_with fail
    refine (tokens_any 1 _ k3 e2 0 T _ hk3 (by omega) (by omega)).mono ?_
    rintro _ w11 ⟨rfl, hb11⟩
    rw [HQ.out]
    have hR11 := hR10.ext hb11
    have hS11 := hS10.ext hb11
    have hbw11 := hbw10.trans (hb11.mono hbw10.size)
    clear hb11 hR10 hbw10 hS10 HCM
    have c0 : w11.cell? ⟨w2.heap.size, 0, none⟩ = some (.int .i64 1) := by rw [hR11.cell]; rfl
    have c1 : w11.cell? ⟨w2.heap.size, 1, none⟩ = some (.string ⟨#[117]⟩) := by rw [hR11.cell]; rfl
    have d0 : w11.cell? ⟨w8.heap.size, 0, none⟩ = some (.int .i64 1) := by rw [hS11.cell]; rfl
    have d1 : w11.cell? ⟨w8.heap.size, 1, none⟩ = some (.string ⟨#[117]⟩) := by rw [hS11.cell]; rfl
    clear hR11 hS11
    go_wp2
    go_ret
    exact ⟨rfl, hbw11⟩
end Go.Proofs.Ythpjihiikkhcjaa
