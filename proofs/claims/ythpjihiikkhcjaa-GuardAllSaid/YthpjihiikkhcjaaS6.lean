/-
  A part of the proofs of this seat: laws of the walk, or contracts of the functions that the statements reach. No conditions but those that each theorem names.
-/
import Derived.Test.YthpjihiikkhcjaaS2
import Derived.Test.YthpjihiikkhcjaaGi
namespace Go.Proofs.Ythpjihiikkhcjaa
open Go.RowKit Go.Sp
set_option maxRecDepth 100000 in
set_option maxHeartbeats 8000000 in
theorem all_any (n at_ b c : Int) (w : World) (hn : -9223372036854775808 ≤ n ∧ n ≤ 9223372036854775807) (hat : -9223372036854775808 ≤ at_ ∧ at_ ≤ 9223372036854775807) (hb : -9223372036854775808 ≤ b ∧ b ≤ 9223372036854775807) (hc : -9223372036854775808 ≤ c ∧ c ≤ 9223372036854775807) :
    Calls Try.prog 12 #[.int .i64 n, .int .i64 at_, .int .i64 b, .int .i64 c] w fun e w' => e = .returned (.bool true) ∧ Below w.heap.size w w' := by
  go_enter Try.func12, Try.ntmps12
  go_wp2_with fail
  refine (known_any _).mono ?_
  rintro _ w1 ⟨rfl, hbw1⟩
  go_wp2_with fail
  refine (bucketrow_any n at_ _ hn hat).mono ?_
  rintro _ w2 ⟨rfl, hb2⟩
  have hbw2 := hbw1.trans (hb2.mono hbw1.size)
  have ht6 : 0 ≤ n % 6 ∧ n % 6 ≤ 5 := by omega
  have ha5 : 0 ≤ at_ % 500 ∧ at_ % 500 ≤ 1000000000000 := by omega
  generalize n % 6 = t at *
  generalize at_ % 500 = a0 at *
  clear hb2 hbw1
  go_wp2_with (with_reducible refine stop_st 9 24 ?_)
  refine Stop.go (wpList_store_blk rfl rfl rfl rfl (Blk.new w2 _ 28) rfl (size28 _ _ _ _ _) (by simp [recV, Value.oneCell']) ?_)
  intro w3 hR3 hO3
  have hb3 : Below w2.heap.size w2 w3 := ((Below.refl _ _).alloc (Nat.le_refl _) _).trans (hO3.below (Nat.le_refl _) (by simp))
  have hbw3 := hbw2.trans (hb3.mono hbw2.size)
  have hsz := hbw2.size
  clear hO3 hb3 hbw2
  go_wp2_with fail
  refine (within_any b 700 hb (by decide) (by decide) _).mono ?_
  rintro _ wx ⟨rfl, rfl⟩
  have hN0 : 0 ≤ b % 700 ∧ b % 700 ≤ 9223372036854775807 := by omega
  generalize b % 700 = N0 at *
  obtain ⟨N1, hN1⟩ : ∃ m, m = max c 0 := ⟨_, rfl⟩
  have hN1' : 0 ≤ N1 ∧ N1 ≤ 9223372036854775807 := by omega
  go_wp2_with (with_reducible refine stop_at 28 ?_)
  refine Stop.go (wpList_val rfl (r_max rfl rfl hN1.symm) ?_)
  clear hN1
  go_wp2_with fail
  have hS4 : Blk (w3.alloc (.cells #[.int .i64 N0, .int .i64 N1] 3)) w3.heap.size #[.int .i64 N0, .int .i64 N1] 3 := Blk.new _ _ _
  have hR4 := hR3.alloc (.cells #[.int .i64 N0, .int .i64 N1] 3)
  have hbw4 := hbw3.alloc hbw3.size (.cells #[.int .i64 N0, .int .i64 N1] 3)
  generalize w3.alloc (.cells #[.int .i64 N0, .int .i64 N1] 3) = w4 at *
  generalize w3.heap.size = gs at *
  generalize w2.heap.size = gr at *
  clear hR3 hbw3
  go_loopw [11, 12, 13, 14, 15, 16, 17, 18, 19] (fun i _ _ _ _ _ _ _ _ wr => ∃ (k : Nat), k ≤ 2 ∧ i = .int .i64 k ∧ Blk wr gr (recV 1 ⟨#[117]⟩ t a0 0) 28 ∧ Blk wr gs #[.int .i64 N0, .int .i64 N1] 3 ∧ Below w.heap.size w wr) (fun i _ _ _ _ _ _ _ _ _ => (3 - intOf i).toNat)
  case atStart => exact ⟨0, by omega, rfl, hR4, hS4, hbw4⟩
  case round =>
    clear hR4 hS4 hbw4
    obtain ⟨k, hk2, rfl, hR, hS, hbw⟩ := hrel
    by_cases hlt : k < 2
    · have hlt' : (k : Int) < 2 := by omega
      obtain ⟨N, hN, hcS⟩ : ∃ N : Int, (-9223372036854775808 ≤ N ∧ N ≤ 9223372036854775807) ∧ (#[Value.int .i64 N0, .int .i64 N1] : Array Value)[k]? = some (.int .i64 N) := by
        obtain rfl | rfl : k = 0 ∨ k = 1 := by omega
        · exact ⟨N0, by omega, rfl⟩
        · exact ⟨N1, by omega, rfl⟩
      obtain ⟨A, E, hAE⟩ : ∃ A E, tokM t a0 N = (A, E) := ⟨_, _, rfl⟩
      have HTK := Lib.hid hAE
      have HRF : Hid (rfM 1 ⟨#[117]⟩ t a0 0 N = recV 1 ⟨#[117]⟩ (min (A + 1) 5) E 0) := Lib.hid (by unfold rfM; rw [hAE])
      clear hAE
      obtain ⟨p1, nm1, t1, a1, v1, is, hCf⟩ := chM_form 1 ⟨#[117]⟩ t a0 0 N
      obtain ⟨C, hC⟩ : ∃ C, C = recV p1 nm1 t1 a1 v1 := ⟨_, rfl⟩
      rw [← hC] at hCf
      have HC := Lib.hid hCf
      have HCS : Hid ((recV 0 ⟨#[]⟩ 0 0 0).size = C.size) := Lib.hid (by rw [hC]; rfl)
      have HCI : Hid ((Try.prog.info? 28).map (·.size) = some C.size) := Lib.hid (by rw [hC]; exact size28 _ _ _ _ _)
      have HCO : Hid (C.all (·.oneCell') = true) := Lib.hid (by rw [hC]; simp [recV, Value.oneCell'])
      have HCR := Lib.hid hC
      clear hCf hC
      have hcN : wr.cell? ⟨gs, k, none⟩ = some (.int .i64 N) := (hS.cell k).trans hcS
      go_wp2_with fail
      refine wp_region_VE (bt := 5) (fun _ => true) (fun ix => (lookL [.agg (recV 1 ⟨#[117]⟩ t a0 0), (.slice (some ⟨gs, 0, none⟩) 2 2), .int .i64 k, .pointer (some ⟨gs, k, none⟩), .int .i64 N, .tuple #[.int .i64 A, .int .i64 E], .tuple #[.int .i64 A, .int .i64 E], .int .i64 A, .int .i64 E, .int .i64 A, .int .i64 E] ix).getD undef) (fun _ _ _ => True) (by kernel_rfl) (by kernel_rfl) (by kernel_rfl) (fun _ _ _ _ _ _ => trivial) fun x => ?_
      refine VE_ex (v := .agg (recV 1 ⟨#[117]⟩ t a0 0)) rfl rfl rfl (fun u hu hf => r_loadBlk (rho_base rfl rfl) (hR.extM (bt := 5) (by decide) hu) Try.underlying28 rfl (size28 _ _ _ _ _)) ?_
      refine VE_ex (v := (.slice (some ⟨gs, 0, none⟩) 2 2)) rfl rfl rfl (fun u hu hf => r_move (rho_base rfl rfl)) ?_
      refine VE_ex (v := .int .i64 k) rfl rfl rfl (fun u hu hf => r_move (rho_base rfl rfl)) ?_
      refine VE_ex (v := .pointer (some ⟨gs, k, none⟩)) rfl rfl rfl (fun u hu hf => r_indexSl (rho_env rfl) (rho_env rfl) sl41 ⟨by omega, by omega, (by omega : k = 0 + (k : Int).toNat)⟩) ?_
      refine VE_ex (v := .int .i64 N) rfl rfl rfl (fun u hu hf => r_load (rho_env rfl) on3 (hu.cell hcN)) ?_
      refine VE_call (v := .tuple #[.int .i64 A, .int .i64 E]) (f := 19) (args := #[.agg (recV 1 ⟨#[117]⟩ t a0 0), .int .i64 N]) rfl rfl rfl (fun u => r_call pf19 (map2 (rho_env rfl) (rho_env rfl)) rfl) (fun u hu hf => ?_) ?_
      · refine (tokens_any 1 _ t a0 0 N u ht6 ha5 hN).mono ?_
        rintro _ u' ⟨rfl, hb⟩
        exact ⟨by rw [HTK.out], ExtM.of hb hu.below.size⟩
      refine VE_ex (v := .tuple #[.int .i64 A, .int .i64 E]) rfl rfl rfl (fun u hu hf => r_move (rho_env rfl)) ?_
      refine VE_ex (v := .int .i64 A) rfl rfl rfl (fun u hu hf => r_extract (rho_env rfl) (.inl rfl)) ?_
      refine VE_ex (v := .int .i64 E) rfl rfl rfl (fun u hu hf => r_extract (rho_env rfl) (.inr rfl)) ?_
      refine VE_ex (v := .int .i64 A) rfl rfl rfl (fun u hu hf => r_assign (rho_env rfl)) ?_
      refine VE_ex (v := .int .i64 E) rfl rfl rfl (fun u hu hf => r_assign (rho_env rfl)) ?_
      refine VE_nil fun wr19 hu hf => ?_
      rw [withEnv_norm (rfl : setsL _ 0 _ = [_, _, _, _, _, _, _, _, _, _, _, _, _, _, _, _, _, _, _, _, _, _, _, _, _, _, _, _, _, _, _, _, _, _, _, _, _, _, _, _, _, _, _, _, _, _, _, _, _, _, _, _, _, _, _, _, _, _, _, _, _, _, _, _, _, _, _, _, _, _, _, _, _, _, _, _, _, _, _, _, _, _, _, _, _, _, _, _, _, _, _, _, _, _, _, _, _, _, _, _, _, _, _, _, _])]
      replace hR := hR.extM (bt := 5) (by decide) hu
      replace hS := hS.extM (bt := 5) (by decide) hu
      replace hbw := hbw.trans (hu.below.mono hbw.size)
      replace hcN := hu.cell hcN
      clear hf hu
      go_wp2_with fail
      refine wp_region_VE (bt := 5) (fun _ => true) (fun ix => (lookL [.agg (recV 1 ⟨#[117]⟩ t a0 0), (.slice (some ⟨gs, 0, none⟩) 2 2), .int .i64 k, .pointer (some ⟨gs, k, none⟩), .int .i64 N, .tuple #[.int .i64 A, .int .i64 E], .tuple #[.int .i64 A, .int .i64 E], .int .i64 A, .int .i64 E, .int .i64 A, .int .i64 E] ix).getD undef) (fun _ _ _ => True) (by kernel_rfl) (by kernel_rfl) (by kernel_rfl) (fun _ _ _ _ _ _ => trivial) fun x => ?_
      refine VE_ex (v := .agg (recV 1 ⟨#[117]⟩ t a0 0)) rfl rfl rfl (fun u hu hf => r_loadBlk (rho_base rfl rfl) (hR.extM (bt := 5) (by decide) hu) Try.underlying28 rfl (size28 _ _ _ _ _)) ?_
      refine VE_ex (v := (.slice (some ⟨gs, 0, none⟩) 2 2)) rfl rfl rfl (fun u hu hf => r_move (rho_base rfl rfl)) ?_
      refine VE_ex (v := .int .i64 k) rfl rfl rfl (fun u hu hf => r_move (rho_base rfl rfl)) ?_
      refine VE_ex (v := .pointer (some ⟨gs, k, none⟩)) rfl rfl rfl (fun u hu hf => r_indexSl (rho_env rfl) (rho_env rfl) sl41 ⟨by omega, by omega, (by omega : k = 0 + (k : Int).toNat)⟩) ?_
      refine VE_ex (v := .int .i64 N) rfl rfl rfl (fun u hu hf => r_load (rho_env rfl) on3 (hu.cell hcN)) ?_
      refine VE_call (v := .tuple #[.int .i64 A, .int .i64 E]) (f := 31) (args := #[.agg (recV 1 ⟨#[117]⟩ t a0 0), .int .i64 N]) rfl rfl rfl (fun u => r_call pf31 (map2 (rho_env rfl) (rho_env rfl)) rfl) (fun u hu hf => ?_) ?_
      · refine (rtokens_any 1 _ t a0 0 N u ht6 ha5 hN).mono ?_
        rintro _ u' ⟨rfl, hb⟩
        exact ⟨by rw [HTK.out], ExtM.of hb hu.below.size⟩
      refine VE_ex (v := .tuple #[.int .i64 A, .int .i64 E]) rfl rfl rfl (fun u hu hf => r_move (rho_env rfl)) ?_
      refine VE_ex (v := .int .i64 A) rfl rfl rfl (fun u hu hf => r_extract (rho_env rfl) (.inl rfl)) ?_
      refine VE_ex (v := .int .i64 E) rfl rfl rfl (fun u hu hf => r_extract (rho_env rfl) (.inr rfl)) ?_
      refine VE_ex (v := .int .i64 A) rfl rfl rfl (fun u hu hf => r_assign (rho_env rfl)) ?_
      refine VE_ex (v := .int .i64 E) rfl rfl rfl (fun u hu hf => r_assign (rho_env rfl)) ?_
      refine VE_nil fun wr31 hu hf => ?_
      rw [withEnv_norm (rfl : setsL _ 0 _ = [_, _, _, _, _, _, _, _, _, _, _, _, _, _, _, _, _, _, _, _, _, _, _, _, _, _, _, _, _, _, _, _, _, _, _, _, _, _, _, _, _, _, _, _, _, _, _, _, _, _, _, _, _, _, _, _, _, _, _, _, _, _, _, _, _, _, _, _, _, _, _, _, _, _, _, _, _, _, _, _, _, _, _, _, _, _, _, _, _, _, _, _, _, _, _, _, _, _, _, _, _, _, _, _, _])]
      replace hR := hR.extM (bt := 5) (by decide) hu
      replace hS := hS.extM (bt := 5) (by decide) hu
      replace hbw := hbw.trans (hu.below.mono hbw.size)
      replace hcN := hu.cell hcN
      clear hf hu
      go_wp2_with fail
      refine wp_region_GE 9 (fun j => j == 10) (fun j => !(j == 9 || j == 10)) (fun ix => (lookL [.agg (recV 1 ⟨#[117]⟩ t a0 0), (.slice (some ⟨gs, 0, none⟩) 2 2), .int .i64 k, .pointer (some ⟨gs, k, none⟩), .int .i64 N, .tuple #[.agg C, .bool is], .tuple #[.agg C, .bool is], .agg C, .bool is, undef, undef, .bool is] ix).getD undef) (Grew wr31.heap.size C) (VGr wr31.heap.size (recV 0 ⟨#[]⟩ 0 0 0) C 28 9 10) (by kernel_rfl) (by kernel_rfl) (by kernel_rfl) (by kernel_rfl) Grew.refl (fun _ _ _ => Grew.trans) (Grew.drew _) VGr.mono VGr.dep fun x => ?_
      refine GE_ex (v := .agg (recV 1 ⟨#[117]⟩ t a0 0)) Grew.refl rfl rfl rfl (fun u hu hf => r_loadBlk (rho_base rfl rfl) (hR.below hu.below hR.lt) Try.underlying28 rfl (size28 _ _ _ _ _)) ?_
      refine GE_ex (v := (.slice (some ⟨gs, 0, none⟩) 2 2)) Grew.refl rfl rfl rfl (fun u hu hf => r_move (rho_base rfl rfl)) ?_
      refine GE_ex (v := .int .i64 k) Grew.refl rfl rfl rfl (fun u hu hf => r_move (rho_base rfl rfl)) ?_
      refine GE_ex (v := .pointer (some ⟨gs, k, none⟩)) Grew.refl rfl rfl rfl (fun u hu hf => r_indexSl (rho_env rfl) (rho_env rfl) sl41 ⟨by omega, by omega, (by omega : k = 0 + (k : Int).toNat)⟩) ?_
      refine GE_ex (v := .int .i64 N) Grew.refl rfl rfl rfl (fun u hu hf => r_load (rho_env rfl) on3 ((hS.below hu.below hS.lt).cell k |>.trans hcS)) ?_
      refine GE_call (v := .tuple #[.agg C, .bool is]) (f := 28) (args := #[.agg (recV 1 ⟨#[117]⟩ t a0 0), .int .i64 N]) rfl rfl rfl (fun u => r_call pf28 (map2 (rho_env rfl) (rho_env rfl)) rfl) (fun u hu hf => ?_) ?_
      · refine (charge_any 1 _ t a0 0 N u ht6 ha5 hN).mono ?_
        rintro _ u' ⟨rfl, hb⟩
        exact ⟨by rw [HC.out], Grew.of hb hu.below.size⟩
      refine GE_ex (v := .tuple #[.agg C, .bool is]) Grew.refl rfl rfl rfl (fun u hu hf => r_move (rho_env rfl)) ?_
      refine GE_ex (v := .agg C) Grew.refl rfl rfl rfl (fun u hu hf => r_extract (rho_env rfl) (.inl rfl)) ?_
      refine GE_ex (v := .bool is) Grew.refl rfl rfl rfl (fun u hu hf => r_extract (rho_env rfl) (.inr rfl)) ?_
      refine GE_any rfl rfl (fun u hu hf => ⟨_, _, r_alloc28 u, Grew.of ((Below.refl _ _).alloc (Nat.le_refl _) _) hu.below.size, VGr.al (by decide) hu.below.size⟩) ?_
      refine GE_store rfl rfl (fun u hu hf => ?_) ?_
      · obtain ⟨g1, hx, hg1, hB⟩ := (hf 9 rfl (by decide) rfl).1 rfl
        exact grow_store ((rho_env rfl).trans hx) (rho_env rfl) hB HCS.out HCI.out HCO.out hg1 (VGr.st (by decide) hx hg1)
      refine GE_ex (v := .bool is) Grew.refl rfl rfl rfl (fun u hu hf => r_assign (rho_env rfl)) ?_
      refine GE_nil fun wr28 hu hf => ?_
      rw [withEnv_norm (rfl : setsL _ 0 _ = [_, _, _, _, _, _, _, _, _, _, _, _, _, _, _, _, _, _, _, _, _, _, _, _, _, _, _, _, _, _, _, _, _, _, _, _, _, _, _, _, _, _, _, _, _, _, _, _, _, _, _, _, _, _, _, _, _, _, _, _, _, _, _, _, _, _, _, _, _, _, _, _, _, _, _, _, _, _, _, _, _, _, _, _, _, _, _, _, _, _, _, _, _, _, _, _, _, _, _, _, _, _, _, _, _])]
      obtain ⟨gx, hxgx, hggx, hBgx⟩ := (hf 10 (by decide) rfl).2 rfl
      rw [hxgx]
      clear hxgx hf
      have hX := hBgx
      replace hR := hR.below hu.below hR.lt
      replace hS := hS.below hu.below hS.lt
      replace hbw := hbw.trans (hu.below.mono hbw.size)
      replace hcN := (hS.cell k).trans hcS
      clear hBgx hu
      go_wp2_with fail
      refine wp_region_GE 9 (fun j => j == 10) (fun j => !(j == 9 || j == 10)) (fun ix => (lookL [.agg (recV 1 ⟨#[117]⟩ t a0 0), (.slice (some ⟨gs, 0, none⟩) 2 2), .int .i64 k, .pointer (some ⟨gs, k, none⟩), .int .i64 N, .tuple #[.agg C, .bool is], .tuple #[.agg C, .bool is], .agg C, .bool is, undef, undef, .bool is] ix).getD undef) (Grew wr28.heap.size C) (VGr wr28.heap.size (recV 0 ⟨#[]⟩ 0 0 0) C 28 9 10) (by kernel_rfl) (by kernel_rfl) (by kernel_rfl) (by kernel_rfl) Grew.refl (fun _ _ _ => Grew.trans) (Grew.drew _) VGr.mono VGr.dep fun x => ?_
      refine GE_ex (v := .agg (recV 1 ⟨#[117]⟩ t a0 0)) Grew.refl rfl rfl rfl (fun u hu hf => r_loadBlk (rho_base rfl rfl) (hR.below hu.below hR.lt) Try.underlying28 rfl (size28 _ _ _ _ _)) ?_
      refine GE_ex (v := (.slice (some ⟨gs, 0, none⟩) 2 2)) Grew.refl rfl rfl rfl (fun u hu hf => r_move (rho_base rfl rfl)) ?_
      refine GE_ex (v := .int .i64 k) Grew.refl rfl rfl rfl (fun u hu hf => r_move (rho_base rfl rfl)) ?_
      refine GE_ex (v := .pointer (some ⟨gs, k, none⟩)) Grew.refl rfl rfl rfl (fun u hu hf => r_indexSl (rho_env rfl) (rho_env rfl) sl41 ⟨by omega, by omega, (by omega : k = 0 + (k : Int).toNat)⟩) ?_
      refine GE_ex (v := .int .i64 N) Grew.refl rfl rfl rfl (fun u hu hf => r_load (rho_env rfl) on3 ((hS.below hu.below hS.lt).cell k |>.trans hcS)) ?_
      refine GE_call (v := .tuple #[.agg C, .bool is]) (f := 32) (args := #[.agg (recV 1 ⟨#[117]⟩ t a0 0), .int .i64 N]) rfl rfl rfl (fun u => r_call pf32 (map2 (rho_env rfl) (rho_env rfl)) rfl) (fun u hu hf => ?_) ?_
      · refine (rcharge_any 1 _ t a0 0 N u ht6 ha5 hN).mono ?_
        rintro _ u' ⟨rfl, hb⟩
        exact ⟨by rw [HC.out], Grew.of hb hu.below.size⟩
      refine GE_ex (v := .tuple #[.agg C, .bool is]) Grew.refl rfl rfl rfl (fun u hu hf => r_move (rho_env rfl)) ?_
      refine GE_ex (v := .agg C) Grew.refl rfl rfl rfl (fun u hu hf => r_extract (rho_env rfl) (.inl rfl)) ?_
      refine GE_ex (v := .bool is) Grew.refl rfl rfl rfl (fun u hu hf => r_extract (rho_env rfl) (.inr rfl)) ?_
      refine GE_any rfl rfl (fun u hu hf => ⟨_, _, r_alloc28 u, Grew.of ((Below.refl _ _).alloc (Nat.le_refl _) _) hu.below.size, VGr.al (by decide) hu.below.size⟩) ?_
      refine GE_store rfl rfl (fun u hu hf => ?_) ?_
      · obtain ⟨g1, hx, hg1, hB⟩ := (hf 9 rfl (by decide) rfl).1 rfl
        exact grow_store ((rho_env rfl).trans hx) (rho_env rfl) hB HCS.out HCI.out HCO.out hg1 (VGr.st (by decide) hx hg1)
      refine GE_ex (v := .bool is) Grew.refl rfl rfl rfl (fun u hu hf => r_assign (rho_env rfl)) ?_
      refine GE_nil fun wr32 hu hf => ?_
      rw [withEnv_norm (rfl : setsL _ 0 _ = [_, _, _, _, _, _, _, _, _, _, _, _, _, _, _, _, _, _, _, _, _, _, _, _, _, _, _, _, _, _, _, _, _, _, _, _, _, _, _, _, _, _, _, _, _, _, _, _, _, _, _, _, _, _, _, _, _, _, _, _, _, _, _, _, _, _, _, _, _, _, _, _, _, _, _, _, _, _, _, _, _, _, _, _, _, _, _, _, _, _, _, _, _, _, _, _, _, _, _, _, _, _, _, _, _])]
      obtain ⟨gy, hxgy, hggy, hBgy⟩ := (hf 10 (by decide) rfl).2 rfl
      rw [hxgy]
      clear hxgy hf
      have hY := hBgy
      replace hX := hX.below hu.below hX.lt
      replace hR := hR.below hu.below hR.lt
      replace hS := hS.below hu.below hS.lt
      replace hbw := hbw.trans (hu.below.mono hbw.size)
      replace hcN := (hS.cell k).trans hcS
      clear hBgy hu
      rw [HCR.out] at hX hY
      go_wp2_with fail
      refine wp_region_VE (bt := 5) (fun _ => true) (fun ix => (lookL [.int .i64 A, .int .i64 A, .bool false, .bool false, .int .i64 E, .int .i64 E, .bool false, .bool false, .bool false, .bool is, .bool is, .bool false, .bool false, .bool false, .agg (recV p1 nm1 t1 a1 v1), .agg (recV p1 nm1 t1 a1 v1), .bool true, .bool false, .bool false, .bool false, .agg (recV 1 ⟨#[117]⟩ t a0 0), (.slice (some ⟨gs, 0, none⟩) 2 2), .int .i64 k, .pointer (some ⟨gs, k, none⟩), .int .i64 N, .agg (recV 1 ⟨#[117]⟩ (min (A + 1) 5) E 0), .agg (recV 1 ⟨#[117]⟩ t a0 0), (.slice (some ⟨gs, 0, none⟩) 2 2), .int .i64 k, .pointer (some ⟨gs, k, none⟩), .int .i64 N, .agg (recV 1 ⟨#[117]⟩ (min (A + 1) 5) E 0), .bool true, .bool false, .bool false] ix).getD undef) (fun _ _ _ => True) (by kernel_rfl) (by kernel_rfl) (by kernel_rfl) (fun _ _ _ _ _ _ => trivial) fun x => ?_
      refine VE_ex (v := .int .i64 A) rfl rfl rfl (fun u hu hf => r_move (rho_base rfl rfl)) ?_
      refine VE_ex (v := .int .i64 A) rfl rfl rfl (fun u hu hf => r_move (rho_base rfl rfl)) ?_
      refine VE_ex (v := .bool false) rfl rfl rfl (fun u hu hf => (r_neqI (rho_env rfl) (rho_env rfl)).trans (by simp)) ?_
      refine VE_ex (v := .bool false) rfl rfl rfl (fun u hu hf => r_move (rho_env rfl)) ?_
      refine VE_ex (v := .int .i64 E) rfl rfl rfl (fun u hu hf => r_move (rho_base rfl rfl)) ?_
      refine VE_ex (v := .int .i64 E) rfl rfl rfl (fun u hu hf => r_move (rho_base rfl rfl)) ?_
      refine VE_ex (v := .bool false) rfl rfl rfl (fun u hu hf => (r_neqI (rho_env rfl) (rho_env rfl)).trans (by simp)) ?_
      refine VE_ex (v := .bool false) rfl rfl rfl (fun u hu hf => r_pickF (rho_env rfl) (rho_env rfl)) ?_
      refine VE_ex (v := .bool false) rfl rfl rfl (fun u hu hf => r_move (rho_env rfl)) ?_
      refine VE_ex (v := .bool is) rfl rfl rfl (fun u hu hf => r_move (rho_base rfl rfl)) ?_
      refine VE_ex (v := .bool is) rfl rfl rfl (fun u hu hf => r_move (rho_base rfl rfl)) ?_
      refine VE_ex (v := .bool false) rfl rfl rfl (fun u hu hf => (r_neqB Try.underlying4 (rho_env rfl) (rho_env rfl)).trans (by simp)) ?_
      refine VE_ex (v := .bool false) rfl rfl rfl (fun u hu hf => r_pickF (rho_env rfl) (rho_env rfl)) ?_
      refine VE_ex (v := .bool false) rfl rfl rfl (fun u hu hf => r_move (rho_env rfl)) ?_
      refine VE_ex (v := .agg (recV p1 nm1 t1 a1 v1)) rfl rfl rfl (fun u hu hf => r_loadBlk (rho_base rfl rfl) (hX.extM (bt := 5) (by decide) hu) Try.underlying28 rfl (size28 _ _ _ _ _)) ?_
      refine VE_ex (v := .agg (recV p1 nm1 t1 a1 v1)) rfl rfl rfl (fun u hu hf => r_loadBlk (rho_base rfl rfl) (hY.extM (bt := 5) (by decide) hu) Try.underlying28 rfl (size28 _ _ _ _ _)) ?_
      refine VE_call (v := .bool true) (f := 29) (args := #[.agg (recV p1 nm1 t1 a1 v1), .agg (recV p1 nm1 t1 a1 v1)]) rfl rfl rfl (fun u => r_call pf29 (map2 (rho_env rfl) (rho_env rfl)) rfl) (fun u hu hf => ?_) ?_
      · refine (records_any p1 nm1 t1 a1 v1 p1 nm1 t1 a1 v1 u).mono ?_
        rintro _ u' ⟨rfl, hb⟩
        exact ⟨by rw [recsM_self], ExtM.of hb hu.below.size⟩
      refine VE_ex (v := .bool false) rfl rfl rfl (fun u hu hf => r_not (a := true) (rho_env rfl)) ?_
      refine VE_ex (v := .bool false) rfl rfl rfl (fun u hu hf => r_pickF (rho_env rfl) (rho_env rfl)) ?_
      refine VE_ex (v := .bool false) rfl rfl rfl (fun u hu hf => r_move (rho_env rfl)) ?_
      refine VE_ex (v := .agg (recV 1 ⟨#[117]⟩ t a0 0)) rfl rfl rfl (fun u hu hf => r_loadBlk (rho_base rfl rfl) (hR.extM (bt := 5) (by decide) hu) Try.underlying28 rfl (size28 _ _ _ _ _)) ?_
      refine VE_ex (v := (.slice (some ⟨gs, 0, none⟩) 2 2)) rfl rfl rfl (fun u hu hf => r_move (rho_base rfl rfl)) ?_
      refine VE_ex (v := .int .i64 k) rfl rfl rfl (fun u hu hf => r_move (rho_base rfl rfl)) ?_
      refine VE_ex (v := .pointer (some ⟨gs, k, none⟩)) rfl rfl rfl (fun u hu hf => r_indexSl (rho_env rfl) (rho_env rfl) sl41 ⟨by omega, by omega, (by omega : k = 0 + (k : Int).toNat)⟩) ?_
      refine VE_ex (v := .int .i64 N) rfl rfl rfl (fun u hu hf => r_load (rho_env rfl) on3 (hu.cell hcN)) ?_
      refine VE_call (v := .agg (recV 1 ⟨#[117]⟩ (min (A + 1) 5) E 0)) (f := 33) (args := #[.agg (recV 1 ⟨#[117]⟩ t a0 0), .int .i64 N]) rfl rfl rfl (fun u => r_call pf33 (map2 (rho_env rfl) (rho_env rfl)) rfl) (fun u hu hf => ?_) ?_
      · refine (refund_any 1 _ t a0 0 N u ht6 ha5 hN).mono ?_
        rintro _ u' ⟨rfl, hb⟩
        exact ⟨by rw [HRF.out], ExtM.of hb hu.below.size⟩
      refine VE_ex (v := .agg (recV 1 ⟨#[117]⟩ t a0 0)) rfl rfl rfl (fun u hu hf => r_loadBlk (rho_base rfl rfl) (hR.extM (bt := 5) (by decide) hu) Try.underlying28 rfl (size28 _ _ _ _ _)) ?_
      refine VE_ex (v := (.slice (some ⟨gs, 0, none⟩) 2 2)) rfl rfl rfl (fun u hu hf => r_move (rho_base rfl rfl)) ?_
      refine VE_ex (v := .int .i64 k) rfl rfl rfl (fun u hu hf => r_move (rho_base rfl rfl)) ?_
      refine VE_ex (v := .pointer (some ⟨gs, k, none⟩)) rfl rfl rfl (fun u hu hf => r_indexSl (rho_env rfl) (rho_env rfl) sl41 ⟨by omega, by omega, (by omega : k = 0 + (k : Int).toNat)⟩) ?_
      refine VE_ex (v := .int .i64 N) rfl rfl rfl (fun u hu hf => r_load (rho_env rfl) on3 (hu.cell hcN)) ?_
      refine VE_call (v := .agg (recV 1 ⟨#[117]⟩ (min (A + 1) 5) E 0)) (f := 34) (args := #[.agg (recV 1 ⟨#[117]⟩ t a0 0), .int .i64 N]) rfl rfl rfl (fun u => r_call pf34 (map2 (rho_env rfl) (rho_env rfl)) rfl) (fun u hu hf => ?_) ?_
      · refine (rrefund_any 1 _ t a0 0 N u ht6 ha5 hN).mono ?_
        rintro _ u' ⟨rfl, hb⟩
        exact ⟨by rw [HRF.out], ExtM.of hb hu.below.size⟩
      refine VE_call (v := .bool true) (f := 29) (args := #[.agg (recV 1 ⟨#[117]⟩ (min (A + 1) 5) E 0), .agg (recV 1 ⟨#[117]⟩ (min (A + 1) 5) E 0)]) rfl rfl rfl (fun u => r_call pf29 (map2 (rho_env rfl) (rho_env rfl)) rfl) (fun u hu hf => ?_) ?_
      · refine (records_any 1 ⟨#[117]⟩ (min (A + 1) 5) E 0 1 ⟨#[117]⟩ (min (A + 1) 5) E 0 u).mono ?_
        rintro _ u' ⟨rfl, hb⟩
        exact ⟨by rw [recsM_self], ExtM.of hb hu.below.size⟩
      refine VE_ex (v := .bool false) rfl rfl rfl (fun u hu hf => r_not (a := true) (rho_env rfl)) ?_
      refine VE_ex (v := .bool false) rfl rfl rfl (fun u hu hf => r_pickF (rho_env rfl) (rho_env rfl)) ?_
      refine VE_nil fun u hu hf => ?_
      rw [withEnv_norm (rfl : setsL _ 0 _ = [_, _, _, _, _, _, _, _, _, _, _, _, _, _, _, _, _, _, _, _, _, _, _, _, _, _, _, _, _, _, _, _, _, _, _, _, _, _, _, _, _, _, _, _, _, _, _, _, _, _, _, _, _, _, _, _, _, _, _, _, _, _, _, _, _, _, _, _, _, _, _, _, _, _, _, _, _, _, _, _, _, _, _, _, _, _, _, _, _, _, _, _, _, _, _, _, _, _, _, _, _, _, _, _, _])]
      replace hR := hR.extM (bt := 5) (by decide) hu
      replace hS := hS.extM (bt := 5) (by decide) hu
      replace hbw := hbw.trans (hu.below.mono hbw.size)
      clear hf hcN hu hX hY
      go_wp2
      go_roundw
      case rel => exact ⟨k + 1, by omega, by go_num, hR, hS, hbw⟩
      case measure => simp [intOf]; omega
    · have hlt' : ¬ (k : Int) < 2 := by omega
      go_wp2
      go_ret
      exact ⟨rfl, hbw⟩
end Go.Proofs.Ythpjihiikkhcjaa
