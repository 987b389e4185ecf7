/-
  A part of the proofs of this seat: laws of the walk, or contracts of the functions that the statements reach. No conditions but those that each theorem names.
-/
import Derived.Test.YthpjihiikkhcjaaS2
namespace Go.Proofs.Ythpjihiikkhcjaa
open Go.RowKit Go.Sp
set_option maxRecDepth 100000 in
set_option maxHeartbeats 4000000 in
theorem back_any (n at_ b : Int) (w : World) (hn : -9223372036854775808 ≤ n ∧ n ≤ 9223372036854775807) (hat : -9223372036854775808 ≤ at_ ∧ at_ ≤ 9223372036854775807) (hb : -9223372036854775808 ≤ b ∧ b ≤ 9223372036854775807) :
    Calls Try.prog 9 #[.int .i64 n, .int .i64 at_, .int .i64 b] w fun e w' => e = .returned (.bool true) ∧ Below w.heap.size w w' := by
  go_enter Try.func9, Try.ntmps9
  go_wp2_with fail
  refine (known_any _).mono ?_
  rintro _ w1 ⟨rfl, hbw1⟩
  go_wp2_with fail
  refine (bucketrow_any n at_ _ hn hat).mono ?_
  rintro _ w2 ⟨rfl, hb2⟩
  have hbw2 := hbw1.trans (hb2.mono hbw1.size)
  have ht6 : 0 ≤ n % 6 ∧ n % 6 ≤ 5 := by omega
  have ha5 : 0 ≤ at_ % 500 ∧ at_ % 500 ≤ 499 := by omega
  generalize n % 6 = t at *
  generalize at_ % 500 = a0 at *
  clear hb2 hbw1
  go_wp2_with (refine (show wpList _ _ _ (⟨none, .store 28 (.tmp 7) (.tmp 17), _, _, _, _⟩ :: _) _ _ from stop_here ?_))
  refine Stop.go (wpList_store_blk rfl rfl rfl rfl (Blk.new w2 _ 28) rfl (size28 _ _ _ _ _) (by simp [recV, Value.oneCell']) ?_)
  intro w3 hR3 hO3
  have hb3 : Below w2.heap.size w2 w3 := ((Below.refl _ _).alloc (Nat.le_refl _) _).trans (hO3.below (Nat.le_refl _) (by simp))
  have hbw3 := hbw2.trans (hb3.mono hbw2.size)
  have hl3 := hR3.lt
  clear hO3 hb3 hbw2
  have hc7 : w3.cell? ⟨w2.heap.size, 0 + 21, none⟩ = some (.int .i64 a0) := by rw [hR3.cell]; rfl
  obtain ⟨q, hq⟩ : ∃ q, q = b % 600 := ⟨_, rfl⟩
  have hq0 : 0 ≤ q ∧ q ≤ 599 := by omega
  have HQ := Lib.hid hq
  clear hq
  obtain ⟨T, hT⟩ : ∃ T, T = max 0 (a0 - q) := ⟨_, rfl⟩
  have hT1 : 0 ≤ T ∧ T ≤ a0 := by omega
  have HT := Lib.hid hT
  clear hT
  go_wp2
  refine wp_region_VE (bt := 5) (fun _ => true) (fun ix => (lookL [.pointer (some ⟨w2.heap.size, 0 + 21, none⟩), .int .i64 a0, .int .i64 b, .int .i64 q, .int .i64 (a0 - q), .int .i64 T, .int .i64 T] ix).getD undef) (fun _ _ _ => True) (by kernel_rfl) (by kernel_rfl) (by kernel_rfl) (fun _ _ _ _ _ _ => trivial) fun x => ?_
  refine VE_ex (v := .pointer (some ⟨w2.heap.size, 0 + 21, none⟩)) rfl rfl rfl (fun u hu hf => r_fieldAddr (rho_base rfl rfl) fld28_7) ?_
  refine VE_ex (v := .int .i64 a0) rfl rfl rfl (fun u hu hf => r_load (rho_env rfl) on3 (hu.cell hc7)) ?_
  refine VE_ex (v := .int .i64 b) rfl rfl rfl (fun u hu hf => r_move (rho_base rfl rfl)) ?_
  refine VE_call (v := .int .i64 q) (f := 18) (args := #[.int .i64 b, .int .i64 600]) rfl rfl rfl (fun u => r_call pf18 (map2 (rho_env rfl) rho_const) rfl) (fun u hu hf => ?_) ?_
  · refine (within_any b 600 hb (by decide) (by decide) u).mono ?_
    rintro _ u' ⟨rfl, rfl⟩
    exact ⟨by rw [HQ.out], ExtM.refl _ _ _⟩
  refine VE_ex (v := .int .i64 (a0 - q)) rfl rfl rfl (fun u hu hf => r_subI (rho_env rfl) (rho_env rfl) ⟨rfl, by omega⟩) ?_
  refine VE_ex (v := .int .i64 T) rfl rfl rfl (fun u hu hf => r_max rho_const (rho_env rfl) HT.out.symm) ?_
  refine VE_ex (v := .int .i64 T) rfl rfl rfl (fun u hu hf => r_assign (rho_env rfl)) ?_
  refine VE_nil fun u hu hf => ?_
  rw [withEnv_norm (rfl : setsL _ 0 _ = [_, _, _, _, _, _, _, _, _, _, _, _, _, _, _, _, _, _, _, _, _, _, _, _, _, _, _, _, _, _, _, _, _, _, _, _, _, _, _, _, _, _, _, _, _, _, _, _, _, _, _, _, _, _, _, _, _, _, _, _, _, _, _, _, _, _, _, _, _, _, _, _, _, _, _, _, _, _])]
  have hR4 := hR3.extM (by decide) hu
  have hbw4 := hbw3.trans (hu.below.mono hbw3.size)
  clear hf hc7 hR3 hbw3 hu hl3
  have htk : tokM t a0 T = (t, a0) := by unfold tokM; rw [if_pos hT1.2]
  have HTK := Lib.hid htk
  clear htk
  go_wp2_with (refine (show wpList _ _ _ (⟨some 25, .load 28 (.tmp 7), _, _, _, _⟩ :: _) _ _ from stop_here ?_))
  refine Stop.go (wpList_val rfl (r_loadBlk rfl hR4 Try.underlying28 rfl (size28 _ _ _ _ _)) ?_)
  go_wp2_with fail
  refine (tokens_any 1 _ t a0 0 T _ ht6 (by omega) (by omega)).mono ?_
  rintro _ w5 ⟨rfl, hb5⟩
  rw [HTK.out]
  have hR5 := hR4.ext hb5
  have hbw5 := hbw4.trans (hb5.mono hbw4.size)
  clear hb5 hR4 hbw4
  go_wp2_with (refine (show wpList _ _ _ (⟨some 31, .load 28 (.tmp 7), _, _, _, _⟩ :: _) _ _ from stop_here ?_))
  refine Stop.go (wpList_val rfl (r_loadBlk rfl hR5 Try.underlying28 rfl (size28 _ _ _ _ _)) ?_)
  go_wp2_with fail
  refine (charge_any 1 _ t a0 0 T _ ht6 (by omega) (by omega)).mono ?_
  rintro _ w6 ⟨rfl, hb6⟩
  have hR6 := hR5.ext hb6
  have hbw6 := hbw5.trans (hb6.mono hbw5.size)
  clear hb6 hR5 hbw5
  have hcM : chM 1 ⟨#[117]⟩ t a0 0 T = if t < 1 then (recV 0 ⟨#[]⟩ 0 0 0, false) else (recV 1 ⟨#[117]⟩ (t - 1) a0 0, true) := by unfold chM; rw [HTK.out]
  have HCM := Lib.hid hcM
  clear hcM
  have hl6 := hR6.lt
  by_cases ht1 : t < 1
  case' pos =>
    rw [HCM.out, if_pos ht1]
    have hgt : ¬ 0 < t := by omega
  case' neg =>
    rw [HCM.out, if_neg ht1]
    have hgt : 0 < t := by omega
  all_goals
    go_wp2_with (refine (show wpList _ _ _ (⟨none, .store 28 (.tmp 11) (.tmp 34), _, _, _, _⟩ :: _) _ _ from stop_here ?_))
    refine Stop.go (wpList_store_blk rfl rfl rfl rfl (Blk.new w6 _ 28) rfl (size28 _ _ _ _ _) (by simp [recV, Value.oneCell']) ?_)
    intro w7 hS7 hO7
    have hb7 : Below w6.heap.size w6 w7 := ((Below.refl _ _).alloc (Nat.le_refl _) _).trans (hO7.below (Nat.le_refl _) (by simp))
    have hR7 := hR6.ext hb7
    have hbw7 := hbw6.trans (hb7.mono hbw6.size)
    clear hO7 hb7 hR6 hbw6 HTK HCM
    have c20 : w7.cell? ⟨w2.heap.size, 20, none⟩ = some (.int .i64 t) := by rw [hR7.cell]; rfl
    have c21 : w7.cell? ⟨w2.heap.size, 21, none⟩ = some (.int .i64 a0) := by rw [hR7.cell]; rfl
    try have d20 : w7.cell? ⟨w6.heap.size, 20, none⟩ = some (.int .i64 (t - 1)) := by rw [hS7.cell]; rfl
    try have d21 : w7.cell? ⟨w6.heap.size, 21, none⟩ = some (.int .i64 a0) := by rw [hS7.cell]; rfl
    clear hS7
    clear hR7
    go_wp2
    go_ret
    first | exact ⟨rfl, hbw7⟩ | exact ⟨congrArg (fun x => Ending.returned (Value.bool x)) (by simp [hgt]), hbw7⟩
end Go.Proofs.Ythpjihiikkhcjaa
