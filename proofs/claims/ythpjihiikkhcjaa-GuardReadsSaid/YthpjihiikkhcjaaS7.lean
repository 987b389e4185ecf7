/-
  A part of the proofs of this seat: laws of the walk, or contracts of the functions that the statements reach. No conditions but those that each theorem names.
-/
import Derived.Test.YthpjihiikkhcjaaGi
namespace Go.Sp
open Go.RowKit
theorem r_remI {ρ : Operand → Value} {d : Option Tmp} {t t' ty : TypeId} {pos : String} {aft : Array Edge} {g : Option (Nat × Bool)} {x y : Operand} {P : Program} {w : World} {a b c : Int} (hx : ρ x = .int .i64 a) (hy : ρ y = .int .i64 b) (ha : 0 ≤ a) (hb : 0 < b ∧ b ≤ 9223372036854775807) (hc : a % b = c) :
    (execOp ρ ⟨d, .binOp .rem t x y t', ty, pos, aft, g⟩).run P w = .ok (.value (.int .i64 c)) w := by
  have h1 : a.tmod b = c := by rw [Int.tmod_eq_emod_of_nonneg ha]; exact hc
  have h2 : 0 ≤ c := by rw [← hc]; exact Int.emod_nonneg a (by omega)
  have h3 : c < b := by rw [← hc]; exact Int.emod_lt_of_pos a hb.1
  have h4 : ¬ b = 0 := by omega
  refine r_bin hx hy rfl ?_
  have hw : IntKind.i64.wrap c = c := by rw [IntKind.wrap_i64]; omega
  simp [binOp, Op.intDiv, h1, h4, hw]
theorem tokM_full (t a now : Int) (ht : 0 ≤ t ∧ t ≤ 5) (h : a ≤ now) : t ≤ (tokM t a now).1 ∧ (tokM t a now).1 ≤ 5 ∧ a ≤ (tokM t a now).2 ∧ (tokM t a now).2 ≤ now := by
  unfold tokM
  split
  · simp only; omega
  · split <;> (simp only; omega)
end Go.Sp
namespace Go.Proofs.Ythpjihiikkhcjaa
open Go.RowKit Go.Sp
set_option maxRecDepth 100000 in
set_option maxHeartbeats 8000000 in
theorem refunds_any (n at_ : Int) (v : Value) (l : List Int) (w : World) (hn : -9223372036854775808 ≤ n ∧ n ≤ 9223372036854775807) (hat : -9223372036854775808 ≤ at_ ∧ at_ ≤ 9223372036854775807) (hl : Nums w v l) :
    Calls Try.prog 15 #[.int .i64 n, .int .i64 at_, v] w fun e w' => e = .returned (.bool true) ∧ Below w.heap.size w w' := by
  have hls : ∃ a c, v = .slice a l.length c ∧ l.length ≤ c ∧ c ≤ maxLen := by
    rcases hl with ⟨rfl, rfl⟩ | ⟨g, off, cap, rfl, h1, h2, _⟩
    · exact ⟨none, 0, rfl, Nat.le_refl _, by simp [maxLen]⟩
    · exact ⟨_, _, rfl, h1, h2⟩
  obtain ⟨va, vc, rfl, hvc, hvm⟩ := hls
  unfold maxLen at hvm
  have HL := Lib.hid hl
  clear hl
  go_enter Try.func15, Try.ntmps15
  go_wp2_with fail
  refine (known_any _).mono ?_
  rintro _ w1 ⟨rfl, hbw1⟩
  go_wp2_with fail
  refine (bucketrow_any n at_ _ hn hat).mono ?_
  rintro _ w2 ⟨rfl, hb2⟩
  have hbw2 := hbw1.trans (hb2.mono hbw1.size)
  have ht6 : 0 ≤ n % 6 ∧ n % 6 ≤ 5 := by omega
  have ha5 : 0 ≤ at_ % 500 ∧ at_ % 500 ≤ 499 := by omega
  generalize n % 6 = t at *
  generalize at_ % 500 = a0 at *
  clear hb2 hbw1
  go_wp2_with (with_reducible refine stop_st 7 19 ?_)
  refine Stop.go (wpList_store_blk rfl rfl rfl rfl (Blk.new w2 _ 28) rfl (size28 _ _ _ _ _) (by simp [recV, Value.oneCell']) ?_)
  intro w3 hR3 hO3
  have hb3 : Below w2.heap.size w2 w3 := ((Below.refl _ _).alloc (Nat.le_refl _) _).trans (hO3.below (Nat.le_refl _) (by simp))
  have hbw3 := hbw2.trans (hb3.mono hbw2.size)
  have hsz := hbw2.size
  have c21 : w3.cell? ⟨w2.heap.size, 21, none⟩ = some (.int .i64 a0) := by rw [hR3.cell]; rfl
  clear hO3 hb3 hbw2
  generalize w2.heap.size = gr at *
  go_wp2_with fail
  clear c21
  go_loopw [9, 8, 10, 11, 12, 13, 14] (fun i nw _ _ _ _ _ wr => ∃ (k : Nat) (t a now : Int), k ≤ 40 ∧ i = .int .i64 k ∧ nw = .int .i64 now ∧ 0 ≤ t ∧ t ≤ 5 ∧ 0 ≤ a ∧ a ≤ now ∧ now ≤ 499 + 4 * (k : Int) ∧ Blk wr gr (recV 1 ⟨#[117]⟩ t a 0) 28 ∧ Below w.heap.size w wr) (fun i _ _ _ _ _ _ _ => (41 - intOf i).toNat)
  case atStart => exact ⟨0, t, a0, a0, by omega, rfl, rfl, by omega, by omega, by omega, by omega, by omega, hR3, hbw3⟩
  case round =>
    clear hR3 hbw3 ht6 ha5
    obtain ⟨k, t, a, now, hk40, rfl, rfl, ht0, ht5, ha0, han, hnk, hR, hbw⟩ := hrel
    by_cases hkl : k < l.length
    · by_cases hk4 : k < 40
      · have hkl' : (k : Int) < (l.length : Int) := by omega
        have hk4' : (k : Int) < 40 := by omega
        obtain ⟨g, off, rfl, hcn⟩ : ∃ g off, va = some ⟨g, off, none⟩ ∧ wr.cell? ⟨g, off + k, none⟩ = some (.int .i64 l[k]) := by
          rcases HL.out with ⟨h1, h2⟩ | ⟨g, off, cap, h1, _, _, hg, h2⟩
          · rw [h2] at hkl; simp at hkl
          · simp only [Value.slice.injEq] at h1
            exact ⟨g, off, h1.1, (World.cell?_of_block (a := ⟨g, off + k, none⟩) (hbw.block g hg)).trans (h2 k l[k] (by simp [hkl])).1⟩
        have hnb : -9223372036854775808 ≤ l[k] ∧ l[k] ≤ 9223372036854775807 := by
          rcases HL.out with ⟨h1, h2⟩ | ⟨g, off, cap, h1, _, _, hg, h2⟩
          · rw [h2] at hkl; simp at hkl
          · exact (h2 k l[k] (by simp [hkl])).2
        generalize l[k] = m at *
        go_wp2_with fail
        refine (within_any m 1048576 hnb (by decide) (by decide) _).mono ?_
        rintro _ wx ⟨rfl, rfl⟩
        have hK : 0 ≤ m % 1048576 ∧ m % 1048576 < 1048576 := by omega
        generalize m % 1048576 = K at *
        clear hcn
        obtain ⟨q, hq⟩ : ∃ q, q = K / 3 := ⟨_, rfl⟩
        obtain ⟨q5, hq5⟩ : ∃ q5, q5 = q % 5 := ⟨_, rfl⟩
        obtain ⟨nw, hnw⟩ : ∃ nw, nw = now + q5 := ⟨_, rfl⟩
        have hq0 : 0 ≤ q ∧ q ≤ 1048576 := by omega
        have hq50 : 0 ≤ q5 ∧ q5 ≤ 4 := by omega
        obtain ⟨r3, hr3⟩ : ∃ r3, r3 = K % 3 := ⟨_, rfl⟩
        have HQ := Lib.hid hq
        have HQ5 := Lib.hid hq5
        have HNW := Lib.hid hnw
        have HR3 := Lib.hid hr3
        have hnw0 : a ≤ nw ∧ nw ≤ 499 + 4 * ((k : Int) + 1) := by omega
        clear hq hq5 hnw hr3
        go_wp2_with (with_reducible refine stop_at 39 ?_)
        refine Stop.go (wpList_val rfl (r_quoI rfl rfl (by omega) (by decide) HQ.out.symm) ?_)
        go_wp2_with (with_reducible refine stop_at 40 ?_)
        refine Stop.go (wpList_val rfl (r_remI rfl rfl (by omega) (by decide) HQ5.out.symm) ?_)
        go_wp2_with (with_reducible refine stop_at 41 ?_)
        refine Stop.go (wpList_val rfl (r_addI rfl rfl ⟨HNW.out.symm, by omega⟩) ?_)
        go_wp2_with (with_reducible refine stop_at 43 ?_)
        refine Stop.go (wpList_val rfl (r_remI rfl rfl (by omega) (by decide) HR3.out.symm) ?_)
        obtain ⟨M, E, hME⟩ : ∃ M E, tokM t a nw = (M, E) := ⟨_, _, rfl⟩
        have hf := tokM_full t a nw ⟨ht0, ht5⟩ hnw0.1
        rw [hME] at hf
        simp only at hf
        obtain ⟨f1, f2, f3, f4⟩ := hf
        have HME := Lib.hid hME
        clear hME
        by_cases h3 : r3 = 0
        · have h3' : (r3 == 0) = true := by simpa using h3
          obtain ⟨T, hT⟩ : ∃ T, T = min (M + 1) 5 := ⟨_, rfl⟩
          have hTb : 0 ≤ T ∧ T ≤ 5 := by omega
          have HRF : Hid (rfM 1 ⟨#[117]⟩ t a 0 nw = recV 1 ⟨#[117]⟩ T E 0) := Lib.hid (by unfold rfM; rw [HME.out, hT])
          clear hT
          go_wp2_with (with_reducible refine stop_at 45 ?_)
          refine Stop.go (wpList_val rfl (r_loadBlk rfl hR Try.underlying28 rfl (size28 _ _ _ _ _)) ?_)
          go_wp2_with fail
          refine (refund_any 1 _ t a 0 nw _ ⟨ht0, ht5⟩ (by omega) (by omega)).mono ?_
          rintro _ v1 ⟨rfl, hb1⟩
          rw [HRF.out]
          replace hR := hR.ext hb1
          replace hbw := hbw.trans (hb1.mono hbw.size)
          clear hb1
          go_wp2_with (with_reducible refine stop_st 7 47 ?_)
          refine Stop.go (wpList_store_blk rfl rfl rfl rfl hR rfl (size28 _ _ _ _ _) (by simp [recV, Value.oneCell']) ?_)
          intro v2 hZ hO2
          have hbz := hbw.trans (hO2.below (by omega) hbw.size)
          clear hO2 hR hbw
          obtain ⟨M2, E2, hME2⟩ : ∃ M2 E2, tokM T E nw = (M2, E2) := ⟨_, _, rfl⟩
          have hf2 := tokM_full T E nw ⟨by omega, by omega⟩ (by omega)
          rw [hME2] at hf2
          simp only at hf2
          obtain ⟨e1, e2, e3, e4⟩ := hf2
          have HME2 := Lib.hid hME2
          clear hME2
          have hl7 := hZ.lt
          go_wp2_with (with_reducible refine stop_at 57 ?_)
          refine Stop.go (wpList_val rfl (r_loadBlk rfl hZ Try.underlying28 rfl (size28 _ _ _ _ _)) ?_)
          go_wp2_with fail
          refine (tokens_any 1 _ T E 0 nw _ ⟨by omega, by omega⟩ (by omega) (by omega)).mono ?_
          rintro _ v9 ⟨rfl, hb9⟩
          rw [HME2.out]
          replace hZ := hZ.ext hb9
          replace hbz := hbz.trans (hb9.mono hbz.size)
          clear hb9
          have c20 : v9.cell? ⟨gr, 20, none⟩ = some (.int .i64 T) := by rw [hZ.cell]; rfl
          have c21 : v9.cell? ⟨gr, 21, none⟩ = some (.int .i64 E) := by rw [hZ.cell]; rfl
          have g1 : ¬ T < 0 := by omega
          have g2 : ¬ 5 < T := by omega
          have g3 : ¬ M2 < T := by omega
          have g4 : ¬ 5 < M2 := by omega
          have g5 : ¬ nw < E2 := by omega
          have g6 : ¬ E2 < E := by omega
          go_wp2
          go_roundw
          case rel => exact ⟨k + 1, T, E, nw, by omega, by go_num, rfl, by omega, by omega, by omega, by omega, by omega, hZ, hbz⟩
          case measure => simp [intOf]; omega
        · have h3' : (r3 == 0) = false := by simpa using h3
          go_wp2_with (with_reducible refine stop_at 49 ?_)
          refine Stop.go (wpList_val rfl (r_loadBlk rfl hR Try.underlying28 rfl (size28 _ _ _ _ _)) ?_)
          go_wp2_with fail
          refine (charge_any 1 _ t a 0 nw _ ⟨ht0, ht5⟩ (by omega) (by omega)).mono ?_
          rintro _ v1 ⟨rfl, hb1⟩
          have hl1 := hR.lt
          replace hR := hR.ext hb1
          replace hbw := hbw.trans (hb1.mono hbw.size)
          have hsb := hb1.size
          clear hb1
          by_cases hM : M < 1
          · have HC : Hid (chM 1 ⟨#[117]⟩ t a 0 nw = (recV 0 ⟨#[]⟩ 0 0 0, false)) := Lib.hid (by unfold chM; rw [HME.out, if_pos hM])
            rw [HC.out]
            go_wp2_with (with_reducible refine stop_st 11 52 ?_)
            refine Stop.go (wpList_store_blk rfl rfl rfl rfl (Blk.new v1 _ 28) rfl (size28 _ _ _ _ _) (by simp [recV, Value.oneCell']) ?_)
            intro v2 hS2 hO2
            have hb2 : Below v1.heap.size v1 v2 := ((Below.refl _ _).alloc (Nat.le_refl _) _).trans (hO2.below (Nat.le_refl _) (by simp))
            have hZ := hR.ext hb2
            have hbz := hbw.trans (hb2.mono hbw.size)
            clear hO2 hR hbw hb2 hS2
            obtain ⟨M2, E2, hME2⟩ : ∃ M2 E2, tokM t a nw = (M2, E2) := ⟨_, _, rfl⟩
            have hf2 := tokM_full t a nw ⟨by omega, by omega⟩ (by omega)
            rw [hME2] at hf2
            simp only at hf2
            obtain ⟨e1, e2, e3, e4⟩ := hf2
            have HME2 := Lib.hid hME2
            clear hME2
            have hl7 := hZ.lt
            go_wp2_with (with_reducible refine stop_at 57 ?_)
            refine Stop.go (wpList_val rfl (r_loadBlk rfl hZ Try.underlying28 rfl (size28 _ _ _ _ _)) ?_)
            go_wp2_with fail
            refine (tokens_any 1 _ t a 0 nw _ ⟨by omega, by omega⟩ (by omega) (by omega)).mono ?_
            rintro _ v9 ⟨rfl, hb9⟩
            rw [HME2.out]
            replace hZ := hZ.ext hb9
            replace hbz := hbz.trans (hb9.mono hbz.size)
            clear hb9
            have c20 : v9.cell? ⟨gr, 20, none⟩ = some (.int .i64 t) := by rw [hZ.cell]; rfl
            have c21 : v9.cell? ⟨gr, 21, none⟩ = some (.int .i64 a) := by rw [hZ.cell]; rfl
            have g1 : ¬ t < 0 := by omega
            have g2 : ¬ 5 < t := by omega
            have g3 : ¬ M2 < t := by omega
            have g4 : ¬ 5 < M2 := by omega
            have g5 : ¬ nw < E2 := by omega
            have g6 : ¬ E2 < a := by omega
            go_wp2
            go_roundw
            case rel => exact ⟨k + 1, t, a, nw, by omega, by go_num, rfl, by omega, by omega, by omega, by omega, by omega, hZ, hbz⟩
            case measure => simp [intOf]; omega
          · have HC : Hid (chM 1 ⟨#[117]⟩ t a 0 nw = (recV 1 ⟨#[117]⟩ (M - 1) E 0, true)) := Lib.hid (by unfold chM; rw [HME.out, if_neg hM])
            rw [HC.out]
            go_wp2_with (with_reducible refine stop_st 11 52 ?_)
            refine Stop.go (wpList_store_blk rfl rfl rfl rfl (Blk.new v1 _ 28) rfl (size28 _ _ _ _ _) (by simp [recV, Value.oneCell']) ?_)
            intro v2 hS2 hO2
            have hb2 : Below v1.heap.size v1 v2 := ((Below.refl _ _).alloc (Nat.le_refl _) _).trans (hO2.below (Nat.le_refl _) (by simp))
            replace hR := hR.ext hb2
            replace hbw := hbw.trans (hb2.mono hbw.size)
            clear hO2 hb2
            go_wp2_with (with_reducible refine stop_at 55 ?_)
            refine Stop.go (wpList_val rfl (r_loadBlk rfl hS2 Try.underlying28 rfl (size28 _ _ _ _ _)) ?_)
            go_wp2_with (with_reducible refine stop_st 7 55 ?_)
            refine Stop.go (wpList_store_blk rfl rfl rfl rfl hR rfl (size28 _ _ _ _ _) (by simp [recV, Value.oneCell']) ?_)
            intro v3 hZ hO3
            have hbz := hbw.trans (hO3.below (by omega) hbw.size)
            clear hO3 hR hbw hS2
            obtain ⟨M2, E2, hME2⟩ : ∃ M2 E2, tokM (M - 1) E nw = (M2, E2) := ⟨_, _, rfl⟩
            have hf2 := tokM_full (M - 1) E nw ⟨by omega, by omega⟩ (by omega)
            rw [hME2] at hf2
            simp only at hf2
            obtain ⟨e1, e2, e3, e4⟩ := hf2
            have HME2 := Lib.hid hME2
            clear hME2
            have hl7 := hZ.lt
            go_wp2_with (with_reducible refine stop_at 57 ?_)
            refine Stop.go (wpList_val rfl (r_loadBlk rfl hZ Try.underlying28 rfl (size28 _ _ _ _ _)) ?_)
            go_wp2_with fail
            refine (tokens_any 1 _ (M - 1) E 0 nw _ ⟨by omega, by omega⟩ (by omega) (by omega)).mono ?_
            rintro _ v9 ⟨rfl, hb9⟩
            rw [HME2.out]
            replace hZ := hZ.ext hb9
            replace hbz := hbz.trans (hb9.mono hbz.size)
            clear hb9
            have c20 : v9.cell? ⟨gr, 20, none⟩ = some (.int .i64 (M - 1)) := by rw [hZ.cell]; rfl
            have c21 : v9.cell? ⟨gr, 21, none⟩ = some (.int .i64 E) := by rw [hZ.cell]; rfl
            have g1 : ¬ (M - 1) < 0 := by omega
            have g2 : ¬ 5 < (M - 1) := by omega
            have g3 : ¬ M2 < (M - 1) := by omega
            have g4 : ¬ 5 < M2 := by omega
            have g5 : ¬ nw < E2 := by omega
            have g6 : ¬ E2 < E := by omega
            go_wp2
            go_roundw
            case rel => exact ⟨k + 1, (M - 1), E, nw, by omega, by go_num, rfl, by omega, by omega, by omega, by omega, by omega, hZ, hbz⟩
            case measure => simp [intOf]; omega
      · have hk4' : ¬ (k : Int) < 40 := by omega
        have hkl' : (k : Int) < (l.length : Int) := by omega
        go_wp2
        go_ret
        exact ⟨rfl, hbw⟩
    · have hkl' : ¬ (k : Int) < (l.length : Int) := by omega
      go_wp2
      go_ret
      exact ⟨rfl, hbw⟩
end Go.Proofs.Ythpjihiikkhcjaa
