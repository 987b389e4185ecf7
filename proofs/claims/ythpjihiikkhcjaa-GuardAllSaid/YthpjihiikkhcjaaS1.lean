/-
  A part of the proofs of this seat: laws of the walk, or contracts of the functions that the statements reach. No conditions but those that each theorem names.
-/
import Derived.Test.YthpjihiikkhcjaaGh
namespace Go.Sp
theorem steps_plain (t a x y : Int) (ht : 0 ≤ t ∧ t ≤ 5) (h1 : a ≤ x) (h2 : x ≤ y) : tokM (tokM t a x).1 (tokM t a x).2 y = tokM t a y ∧ 0 ≤ (tokM t a y).1 ∧ (tokM t a y).1 ≤ 5 ∧ (tokM t a y).2 ≤ y := by
  unfold tokM
  by_cases c1 : x ≤ a
  · by_cases c2 : y ≤ a
    · simp only [if_pos c1, if_pos c2]; exact ⟨trivial, by omega, by omega, by omega⟩
    · simp only [if_pos c1, if_neg c2]
      refine ⟨trivial, ?_⟩
      split <;> simp only <;> omega
  · have c2 : ¬ y ≤ a := by omega
    simp only [if_neg c1, if_neg c2]
    by_cases c3 : max 0 (min (t + min ((x - a) / 10) 5) 5) = 5
    · have c4 : max 0 (min (t + min ((y - a) / 10) 5) 5) = 5 := by omega
      simp only [if_pos c3, if_pos c4]
      by_cases c5 : y ≤ x
      · simp only [if_pos c5]
        refine ⟨by congr 1; omega, by omega, by omega, by omega⟩
      · simp only [if_neg c5]
        have c6 : max 0 (min (5 + min ((y - x) / 10) 5) 5) = 5 := by omega
        simp only [if_pos c6]
        exact ⟨trivial, by omega, by omega, by omega⟩
    · simp only [if_neg c3]
      by_cases c5 : y ≤ a + (x - a) / 10 * 10
      · simp only [if_pos c5]
        have c7 : (y - a) / 10 = (x - a) / 10 := by omega
        simp only [c7, if_neg c3]
        exact ⟨trivial, by omega, by omega, by omega⟩
      · simp only [if_neg c5]
        have c8 : max 0 (min (max 0 (min (t + min ((x - a) / 10) 5) 5) + min ((y - (a + (x - a) / 10 * 10)) / 10) 5) 5) = max 0 (min (t + min ((y - a) / 10) 5) 5) := by omega
        simp only [c8]
        have c9 : a + (x - a) / 10 * 10 + (y - (a + (x - a) / 10 * 10)) / 10 * 10 = a + (y - a) / 10 * 10 := by omega
        simp only [c9]
        refine ⟨trivial, ?_⟩
        split <;> simp only <;> omega
end Go.Sp
namespace Go.Proofs.Ythpjihiikkhcjaa
open Go.RowKit Go.Sp
theorem pf18 : plainFn Try.prog 18 = true := by kernel_rfl
theorem pf19 : plainFn Try.prog 19 = true := by kernel_rfl
set_option maxRecDepth 100000 in
set_option maxHeartbeats 4000000 in
theorem steps_any (n at_ a b : Int) (w : World) (hn : -9223372036854775808 ≤ n ∧ n ≤ 9223372036854775807) (hat : -9223372036854775808 ≤ at_ ∧ at_ ≤ 9223372036854775807) (ha : -9223372036854775808 ≤ a ∧ a ≤ 9223372036854775807) (hb : -9223372036854775808 ≤ b ∧ b ≤ 9223372036854775807) :
    Calls Try.prog 3 #[.int .i64 n, .int .i64 at_, .int .i64 a, .int .i64 b] w fun e w' => e = .returned (.bool true) ∧ Below w.heap.size w w' := by
  go_enter Try.func3, Try.ntmps3
  go_wp2_with fail
  refine (known_any _).mono ?_
  rintro _ w1 ⟨rfl, hbw1⟩
  go_wp2_with fail
  refine (bucketrow_any n at_ _ hn hat).mono ?_
  rintro _ w2 ⟨rfl, hb2⟩
  have hbw2 := hbw1.trans (hb2.mono hbw1.size)
  have ht6 : 0 ≤ n % 6 ∧ n % 6 ≤ 5 := by omega
  have ha5 : 0 ≤ at_ % 500 ∧ at_ % 500 ≤ 499 := by omega
  generalize n % 6 = t at *
  generalize at_ % 500 = a0 at *
  clear hb2 hbw1
  go_wp2_with (refine (show wpList _ _ _ (⟨none, .store 28 (.tmp 9) (.tmp 23), _, _, _, _⟩ :: _) _ _ from stop_here ?_))
  refine Stop.go (wpList_store_blk rfl rfl rfl rfl (Blk.new w2 _ 28) rfl (size28 _ _ _ _ _) (by simp [recV, Value.oneCell']) ?_)
  intro w3 hR3 hO3
  have hb3 : Below w2.heap.size w2 w3 := ((Below.refl _ _).alloc (Nat.le_refl _) _).trans (hO3.below (Nat.le_refl _) (by simp))
  have hbw3 := hbw2.trans (hb3.mono hbw2.size)
  have hl3 := hR3.lt
  clear hO3 hb3 hbw2
  have hc7 : w3.cell? ⟨w2.heap.size, 0 + 21, none⟩ = some (.int .i64 a0) := by rw [hR3.cell]; rfl
  obtain ⟨A, hA⟩ : ∃ A, A = a % 100 := ⟨_, rfl⟩
  have hA0 : 0 ≤ A ∧ A ≤ 99 := by omega
  have HA := Lib.hid hA
  clear hA
  go_wp2
  refine wp_region_VE (bt := 5) (fun _ => true) (fun ix => (lookL [.pointer (some ⟨w2.heap.size, 0 + 21, none⟩), .int .i64 a0, .int .i64 a, .int .i64 A, .int .i64 (a0 + A), .int .i64 (a0 + A)] ix).getD undef) (fun _ _ _ => True) (by kernel_rfl) (by kernel_rfl) (by kernel_rfl) (fun _ _ _ _ _ _ => trivial) fun x => ?_
  refine VE_ex (v := .pointer (some ⟨w2.heap.size, 0 + 21, none⟩)) rfl rfl rfl (fun u hu hf => r_fieldAddr (rho_base rfl rfl) fld28_7) ?_
  refine VE_ex (v := .int .i64 a0) rfl rfl rfl (fun u hu hf => r_load (rho_env rfl) on3 (hu.cell hc7)) ?_
  refine VE_ex (v := .int .i64 a) rfl rfl rfl (fun u hu hf => r_move (rho_base rfl rfl)) ?_
  refine VE_call (v := .int .i64 A) (f := 18) (args := #[.int .i64 a, .int .i64 100]) rfl rfl rfl (fun u => r_call pf18 (map2 (rho_env rfl) rho_const) rfl) (fun u hu hf => ?_) ?_
  · refine (within_any a 100 ha (by decide) (by decide) u).mono ?_
    rintro _ u' ⟨rfl, rfl⟩
    exact ⟨by rw [HA.out], ExtM.refl _ _ _⟩
  refine VE_ex (v := .int .i64 (a0 + A)) rfl rfl rfl (fun u hu hf => r_addI (rho_env rfl) (rho_env rfl) ⟨rfl, by omega⟩) ?_
  refine VE_ex (v := .int .i64 (a0 + A)) rfl rfl rfl (fun u hu hf => r_assign (rho_env rfl)) ?_
  refine VE_nil fun u hu hf => ?_
  rw [withEnv_norm (rfl : setsL _ 0 _ = [_, _, _, _, _, _, _, _, _, _, _, _, _, _, _, _, _, _, _, _, _, _, _, _, _, _, _, _, _, _, _, _, _, _, _, _, _, _, _, _, _, _, _, _, _, _, _, _, _, _, _, _, _, _, _, _, _, _, _, _, _, _, _, _, _, _, _, _, _, _, _, _, _, _, _, _, _])]
  have hR4 := hR3.extM (by decide) hu
  have hbw4 := hbw3.trans (hu.below.mono hbw3.size)
  have hl4 := hR4.lt
  clear hf hc7 hR3 hbw3 hu hl3
  obtain ⟨x, hx⟩ : ∃ x, x = a0 + A := ⟨_, rfl⟩
  have hx1 : a0 ≤ x ∧ x ≤ 1000 := by omega
  rw [← hx]
  clear hx
  go_wp2_with fail
  refine (within_any b 100 hb (by decide) (by decide) _).mono ?_
  rintro _ wx ⟨rfl, rfl⟩
  have hB0 : 0 ≤ b % 100 ∧ b % 100 ≤ 99 := by omega
  generalize b % 100 = Bq at *
  go_wp2_with (refine (show wpList _ _ _ (⟨some 34, .load 28 (.tmp 9), _, _, _, _⟩ :: _) _ _ from stop_here ?_))
  refine Stop.go (wpList_val rfl (r_loadBlk rfl hR4 Try.underlying28 rfl (size28 _ _ _ _ _)) ?_)
  obtain ⟨y, hy⟩ : ∃ y, y = x + Bq := ⟨_, rfl⟩
  have hy1 : x ≤ y ∧ y ≤ 2000 := by omega
  rw [← hy]
  clear hy
  have hpl := steps_plain t a0 x y ht6 hx1.1 hy1.1
  have hbx := tokM_bounds t a0 x ht6
  have hux : 0 ≤ (tokM t a0 x).2 ∧ (tokM t a0 x).2 ≤ 1000 := by
    by_cases hc : a0 < x
    · have := tokM_le t a0 x hc; omega
    · have : tokM t a0 x = (t, a0) := by unfold tokM; rw [if_pos (by omega)]
      rw [this]; simp only; omega
  go_wp2_with fail
  refine (tokens_any 1 _ t a0 0 x _ ht6 (by omega) (by omega)).mono ?_
  rintro _ w5 ⟨rfl, hb5⟩
  have hR5 := hR4.ext hb5
  have hbw5 := hbw4.trans (hb5.mono hbw4.size)
  have hl5 := hR5.lt
  clear hb5 hR4 hbw4 hl4
  obtain ⟨P, hP⟩ : ∃ P, P = tokM t a0 x := ⟨_, rfl⟩
  rw [← hP] at hpl hbx hux ⊢
  obtain ⟨T, Uq⟩ := P
  clear hP
  simp only at hpl hbx hux ⊢
  obtain ⟨e1, e2, e3, e4⟩ := hpl
  have HE := Lib.hid e1
  clear e1
  go_wp2_with (refine (show wpList _ _ _ (⟨some 39, .load 28 (.tmp 9), _, _, _, _⟩ :: _) _ _ from stop_here ?_))
  refine Stop.go (wpList_val rfl (r_loadBlk rfl hR5 Try.underlying28 rfl (size28 _ _ _ _ _)) ?_)
  go_wp2_with (refine (show wpList _ _ _ (⟨none, .store 28 (.tmp 14) (.tmp 39), _, _, _, _⟩ :: _) _ _ from stop_here ?_))
  refine Stop.go (wpList_store_blk rfl rfl rfl rfl (Blk.new w5 _ 28) rfl (size28 _ _ _ _ _) (by simp [recV, Value.oneCell']) ?_)
  intro w6 hS6 hO6
  have hb6 : Below w5.heap.size w5 w6 := ((Below.refl _ _).alloc (Nat.le_refl _) _).trans (hO6.below (Nat.le_refl _) (by simp))
  have hR6 := hR5.ext hb6
  have hbw6 := hbw5.trans (hb6.mono hbw5.size)
  have hw5 := hbw5.size
  clear hO6 hb6 hR5 hbw5
  have hc20 : w6.cell? ⟨w5.heap.size, 20, none⟩ = some (.int .i64 t) := by rw [hS6.cell]; rfl
  have hc21 : w6.cell? ⟨w5.heap.size, 21, none⟩ = some (.int .i64 a0) := by rw [hS6.cell]; rfl
  have hf20 := hS6.frozen 20
  have hf21 := hS6.frozen 21
  go_wp2_with (refine (show wpList _ _ _ (⟨some 45, .load 28 (.tmp 14), _, _, _, _⟩ :: _) _ _ from stop_here ?_))
  have hS7 : Blk ((w6.setCell ⟨w5.heap.size, 20, none⟩ (.int .i64 T)).setCell ⟨w5.heap.size, 21, none⟩ (.int .i64 Uq)) w5.heap.size (recV 1 ⟨#[117]⟩ T Uq 0) 28 := (hS6.set 20 _).set 21 _
  have hR7 := (hR6.setOther ⟨w5.heap.size, 20, none⟩ (.int .i64 T) (by show w2.heap.size ≠ w5.heap.size; omega)).setOther ⟨w5.heap.size, 21, none⟩ (.int .i64 Uq) (by show w2.heap.size ≠ w5.heap.size; omega)
  have hbw7 := (hbw6.setCell (p := ⟨w5.heap.size, 20, none⟩) hw5 (.int .i64 T)).setCell (p := ⟨w5.heap.size, 21, none⟩) hw5 (.int .i64 Uq)
  clear hc20 hc21 hf20 hf21 hS6 hR6 hbw6
  generalize (w6.setCell ⟨w5.heap.size, 20, none⟩ (.int .i64 T)).setCell ⟨w5.heap.size, 21, none⟩ (.int .i64 Uq) = w7 at *
  refine Stop.go (wpList_val rfl (r_loadBlk rfl hS7 Try.underlying28 rfl (size28 _ _ _ _ _)) ?_)
  go_wp2_with fail
  refine (tokens_any 1 _ T Uq 0 y _ hbx (by omega) (by omega)).mono ?_
  rintro _ w8 ⟨rfl, hb8⟩
  have hR8 := hR7.ext hb8
  have hbw8 := hbw7.trans (hb8.mono hbw7.size)
  rw [HE.out]
  clear hb8 hR7 hbw7 hS7
  go_wp2_with (refine (show wpList _ _ _ (⟨some 51, .load 28 (.tmp 9), _, _, _, _⟩ :: _) _ _ from stop_here ?_))
  refine Stop.go (wpList_val rfl (r_loadBlk rfl hR8 Try.underlying28 rfl (size28 _ _ _ _ _)) ?_)
  go_wp2_with fail
  refine (tokens_any 1 _ t a0 0 y _ ht6 (by omega) (by omega)).mono ?_
  rintro _ w9 ⟨rfl, hb9⟩
  have hbw9 := hbw8.trans (hb9.mono hbw8.size)
  clear hb9 hR8 hbw8 HE
  generalize (tokM t a0 y).1 = v1 at *
  generalize (tokM t a0 y).2 = v2 at *
  go_wp2
  go_ret
  exact ⟨rfl, hbw9⟩
end Go.Proofs.Ythpjihiikkhcjaa
