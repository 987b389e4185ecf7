/-
  A part of the proofs of this seat: laws of the walk, or contracts of the functions that the statements reach. No conditions but those that each theorem names.
-/
import Derived.Test.YthpjihiikkhcjaaGi
namespace Go.Sp
theorem charge_plain (t a T : Int) (ht : 0 ≤ t ∧ t ≤ 5) (ha : 0 ≤ a ∧ a ≤ 999) (hT : 0 ≤ T ∧ T ≤ 599) (hk : 1 ≤ (tokM t a T).1) :
    (tokM ((tokM t a T).1 - 1) (tokM t a T).2 T).1 = (tokM t a T).1 - 1 ∧ 0 ≤ (tokM t a T).2 ∧ (tokM t a T).2 ≤ 999 := by
  obtain ⟨k, b, h⟩ : ∃ k b, tokM t a T = (k, b) := ⟨_, _, rfl⟩
  rw [h] at hk ⊢
  simp only at hk ⊢
  unfold tokM at h
  by_cases c1 : T ≤ a
  · rw [if_pos c1] at h
    obtain ⟨rfl, rfl⟩ := Prod.mk.inj h
    exact ⟨by unfold tokM; rw [if_pos c1], by omega, by omega⟩
  · rw [if_neg c1] at h
    by_cases c2 : max 0 (min (t + min ((T - a) / 10) 5) 5) = 5
    · rw [if_pos c2] at h
      obtain ⟨rfl, rfl⟩ := Prod.mk.inj h
      exact ⟨by unfold tokM; rw [if_pos (by omega)], by omega, by omega⟩
    · rw [if_neg c2] at h
      obtain ⟨h1, h2⟩ := Prod.mk.inj h
      refine ⟨?_, by omega, by omega⟩
      by_cases c3 : T ≤ b
      · unfold tokM; rw [if_pos c3]
      · have hn0 : (T - b) / 10 = 0 := by omega
        unfold tokM
        rw [if_neg c3, hn0, if_neg (by omega)]
        simp only
        omega
end Go.Sp
namespace Go.Proofs.Ythpjihiikkhcjaa
open Go.RowKit Go.Sp
set_option maxRecDepth 100000 in
set_option maxHeartbeats 4000000 in
theorem empties_any (n at_ b : Int) (w : World) (hn : -9223372036854775808 ≤ n ∧ n ≤ 9223372036854775807) (hat : -9223372036854775808 ≤ at_ ∧ at_ ≤ 9223372036854775807) (hb : -9223372036854775808 ≤ b ∧ b ≤ 9223372036854775807) :
    Calls Try.prog 8 #[.int .i64 n, .int .i64 at_, .int .i64 b] w fun e w' => e = .returned (.bool true) ∧ Below w.heap.size w w' := by
  go_enter Try.func8, Try.ntmps8
  go_wp2_with fail
  refine (known_any _).mono ?_
  rintro _ w1 ⟨rfl, hbw1⟩
  go_wp2_with fail
  refine (bucketrow_any n at_ _ hn hat).mono ?_
  rintro _ w2 ⟨rfl, hb2⟩
  have hbw2 := hbw1.trans (hb2.mono hbw1.size)
  have ht6 : 0 ≤ n % 6 ∧ n % 6 ≤ 5 := by omega
  have ha5 : 0 ≤ at_ % 500 ∧ at_ % 500 ≤ 999 := by omega
  generalize n % 6 = t at *
  generalize at_ % 500 = a0 at *
  clear hb2 hbw1
  go_wp2_with (with_reducible refine stop_st 7 18 ?_)
  refine Stop.go (wpList_store_blk rfl rfl rfl rfl (Blk.new w2 _ 28) rfl (size28 _ _ _ _ _) (by simp [recV, Value.oneCell']) ?_)
  intro w3 hR3 hO3
  have hb3 : Below w2.heap.size w2 w3 := ((Below.refl _ _).alloc (Nat.le_refl _) _).trans (hO3.below (Nat.le_refl _) (by simp))
  have hbw3 := hbw2.trans (hb3.mono hbw2.size)
  have hsz := hbw2.size
  clear hO3 hb3 hbw2
  go_wp2_with fail
  refine (within_any b 600 hb (by decide) (by decide) _).mono ?_
  rintro _ wx ⟨rfl, rfl⟩
  have hT : 0 ≤ b % 600 ∧ b % 600 ≤ 599 := by omega
  generalize b % 600 = T at *
  go_wp2_with (with_reducible refine stop_at 22 ?_)
  refine Stop.go (wpList_val rfl (r_loadBlk rfl hR3 Try.underlying28 rfl (size28 _ _ _ _ _)) ?_)
  go_wp2_with fail
  refine (tokens_any 1 _ t a0 0 T _ ht6 (by omega) (by omega)).mono ?_
  rintro _ w5 ⟨rfl, hb5⟩
  have hR5 := hR3.ext hb5
  have hbw5 := hbw3.trans (hb5.mono hbw3.size)
  clear hb5 hR3 hbw3
  obtain ⟨K, hK⟩ : ∃ K, K = (tokM t a0 T).1 := ⟨_, rfl⟩
  have hKb := tokM_bounds t a0 T ht6
  rw [← hK] at hKb ⊢
  have HK := Lib.hid hK
  clear hK
  generalize (tokM t a0 T).2 = A0
  generalize w2.heap.size = g at *
  go_wp2_with fail
  go_loopw [11, 12, 13] (fun i _ _ wr => ∃ (j : Nat) (t a : Int), j ≤ 7 ∧ i = .int .i64 j ∧ 0 ≤ t ∧ t ≤ 5 ∧ 0 ≤ a ∧ a ≤ 999 ∧ (tokM t a T).1 = (if (j : Int) < K then K - j else 0) ∧ Blk wr g (recV 1 ⟨#[117]⟩ t a 0) 28 ∧ Below w.heap.size w wr) (fun i _ _ _ => (8 - intOf i).toNat)
  case atStart => exact ⟨0, t, a0, by omega, rfl, by omega, by omega, by omega, by omega, by rw [← HK.out]; split <;> omega, hR5, hbw5⟩
  case round =>
    clear hR5 hbw5 ht6 ha5 HK
    obtain ⟨j, t, a, hj7, rfl, ht0, ht5, ha0, ha9, hk, hR, hbw⟩ := hrel
    have HKK := Lib.hid hk
    clear hk
    by_cases hlt : j < 7
    · have hlt' : (j : Int) < 7 := by omega
      go_wp2_with (with_reducible refine stop_at 32 ?_)
      refine Stop.go (wpList_val rfl (r_loadBlk rfl hR Try.underlying28 rfl (size28 _ _ _ _ _)) ?_)
      go_wp2_with fail
      refine (charge_any 1 _ t a 0 T _ ⟨ht0, ht5⟩ (by omega) (by omega)).mono ?_
      rintro _ v1 ⟨rfl, hb1⟩
      have hR1 := hR.ext hb1
      have hbw1 := hbw.trans (hb1.mono hbw.size)
      have hl1 := hR1.lt
      clear hb1 hR hbw
      by_cases hjK : (j : Int) < K
      · obtain ⟨c1, c2, c3⟩ := charge_plain t a T ⟨ht0, ht5⟩ ⟨ha0, ha9⟩ hT (by rw [HKK.out, if_pos hjK]; omega)
        have hcM : chM 1 ⟨#[117]⟩ t a 0 T = (recV 1 ⟨#[117]⟩ (K - j - 1) (tokM t a T).2 0, true) := by unfold chM; rw [HKK.out, if_pos hjK, if_neg (by omega)]
        rw [hcM]
        rw [HKK.out, if_pos hjK] at c1
        generalize (tokM t a T).2 = e at *
        have HC1 := Lib.hid c1
        clear hcM c1 HKK
        go_wp2_with (with_reducible refine stop_st 12 35 ?_)
        refine Stop.go (wpList_store_blk rfl rfl rfl rfl (Blk.new v1 _ 28) rfl (size28 _ _ _ _ _) (by simp [recV, Value.oneCell']) ?_)
        intro v2 hS2 hO2
        have hb2 : Below v1.heap.size v1 v2 := ((Below.refl _ _).alloc (Nat.le_refl _) _).trans (hO2.below (Nat.le_refl _) (by simp))
        have hR2 := hR1.ext hb2
        have hbw2 := hbw1.trans (hb2.mono hbw1.size)
        clear hO2 hb2 hR1 hbw1
        have d20 : v2.cell? ⟨v1.heap.size, 20, none⟩ = some (.int .i64 (K - j - 1)) := by rw [hS2.cell]; rfl
        go_wp2_with (with_reducible refine stop_at 65 ?_)
        refine Stop.go (wpList_val rfl (r_loadBlk rfl hS2 Try.underlying28 rfl (size28 _ _ _ _ _)) ?_)
        go_wp2_with (with_reducible refine stop_st 7 65 ?_)
        refine Stop.go (wpList_store_blk rfl rfl rfl rfl hR2 rfl (size28 _ _ _ _ _) (by simp [recV, Value.oneCell']) ?_)
        intro v3 hR3 hO3
        have hbw3 := hbw2.trans (hO3.below (by omega) hbw2.size)
        clear hO3 hR2 hbw2 hS2 d20
        go_wp2
        go_roundw
        case rel => exact ⟨j + 1, K - j - 1, e, by omega, by go_num, by omega, by omega, by omega, by omega, by rw [HC1.out]; split <;> omega, hR3, hbw3⟩
        case measure => simp [intOf]; omega
      · have hcM : chM 1 ⟨#[117]⟩ t a 0 T = (recV 0 ⟨#[]⟩ 0 0 0, false) := by unfold chM; rw [HKK.out, if_neg hjK, if_pos (by omega)]
        rw [hcM]
        clear hcM
        go_wp2_with (with_reducible refine stop_st 12 35 ?_)
        refine Stop.go (wpList_store_blk rfl rfl rfl rfl (Blk.new v1 _ 28) rfl (size28 _ _ _ _ _) (by simp [recV, Value.oneCell']) ?_)
        intro v2 hS2 hO2
        have hb2 : Below v1.heap.size v1 v2 := ((Below.refl _ _).alloc (Nat.le_refl _) _).trans (hO2.below (Nat.le_refl _) (by simp))
        have hR2 := hR1.ext hb2
        have hbw2 := hbw1.trans (hb2.mono hbw1.size)
        clear hO2 hb2 hR1 hbw1
        go_wp2_with (with_reducible refine stop_at 58 ?_)
        refine Stop.go (wpList_valw rfl (r_loadBlk rfl hS2 Try.underlying28 rfl (size28 _ _ _ _ _)) ?_)
        go_wp2_with fail
        refine (records_any 0 ⟨#[]⟩ 0 0 0 0 ⟨#[]⟩ 0 0 0 _).mono ?_
        rintro _ v3 ⟨rfl, hb3⟩
        rw [show recsM 0 ⟨#[]⟩ 0 0 0 0 ⟨#[]⟩ 0 0 0 = true from by simp [recsM]]
        have hR3 := hR2.ext hb3
        have hbw3 := hbw2.trans (hb3.mono hbw2.size)
        clear hb3 hR2 hbw2 hS2
        go_wp2
        go_roundw
        case rel => exact ⟨j + 1, t, a, by omega, by go_num, by omega, by omega, by omega, by omega, by rw [HKK.out]; split <;> split <;> omega, hR3, hbw3⟩
        case measure => simp [intOf]; omega
    · have hlt' : ¬ (j : Int) < 7 := by omega
      go_wp2
      go_ret
      exact ⟨rfl, hbw⟩
end Go.Proofs.Ythpjihiikkhcjaa
