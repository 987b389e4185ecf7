/-
  A part of the proofs of this seat: laws of the walk, or contracts of the functions that the statements reach. No conditions but those that each theorem names.
-/
import Derived.Test.YthpjihiikkhcjaaGj
namespace Go.Sp
open Go.RowKit
theorem r_eqS {P : Program} {w : World} {ρ : Operand → Value} {d : Option Tmp} {ty t t' : TypeId} {pos : String} {aft : Array Edge} {g : Option (Nat × Bool)} {x y : Operand} {a b : List UInt8} (hx : ρ x = .string ⟨a.toArray⟩) (hy : ρ y = .string ⟨b.toArray⟩) :
    (execOp ρ ⟨d, .binOp .eql t x y t', ty, pos, aft, g⟩).run P w = .ok (.value (.bool (a == b))) w :=
  r_bin hx hy rfl (by go_simp)
end Go.Sp
namespace Go.Proofs.Ythpjihiikkhcjaa
open Go.RowKit Go.Sp
set_option maxRecDepth 100000 in
set_option maxHeartbeats 8000000 in
theorem apart_any (kv : Value) (key : List UInt8) (n m : Int) (s t : ByteArray) (w : World) (hk : Byt w kv key) (hn : -9223372036854775808 ≤ n ∧ n ≤ 9223372036854775807) (hm : -9223372036854775808 ≤ m ∧ m ≤ 9223372036854775807) (_hs : s.size ≤ maxLen) (_ht : t.size ≤ maxLen) :
    Calls Try.prog 10 #[kv, .int .i64 n, .int .i64 m, .string s, .string t] w fun e w' => e = .returned (.bool true) ∧ Below w.heap.size w w' := by
  obtain ⟨ls, rfl⟩ : ∃ l : List UInt8, s = ⟨l.toArray⟩ := ⟨s.data.toList, rfl⟩
  obtain ⟨lt, rfl⟩ : ∃ l : List UInt8, t = ⟨l.toArray⟩ := ⟨t.data.toList, rfl⟩
  have hsz : (⟨ls.toArray⟩ : ByteArray).size = ls.length := rfl
  have htz : (⟨lt.toArray⟩ : ByteArray).size = lt.length := rfl
  have HK := Lib.hid hk
  obtain ⟨ka, kc, rfl, hkc, hkm⟩ := hk.len
  unfold maxLen at hkm
  clear hk
  by_cases hk6 : (60 : Int) < (key.length : Int)
  · go_enter Try.func10, Try.ntmps10
    go_wp2_with fail
    refine (known_any _).mono ?_
    rintro _ w1 ⟨rfl, hbw1⟩
    go_wp2
    go_ret
    exact ⟨rfl, hbw1⟩
  by_cases hs4 : (40 : Int) < (ls.length : Int)
  · go_enter Try.func10, Try.ntmps10
    go_wp2_with fail
    refine (known_any _).mono ?_
    rintro _ w1 ⟨rfl, hbw1⟩
    go_wp2
    go_ret
    exact ⟨rfl, hbw1⟩
  by_cases ht4 : (40 : Int) < (lt.length : Int)
  · go_enter Try.func10, Try.ntmps10
    go_wp2_with fail
    refine (known_any _).mono ?_
    rintro _ w1 ⟨rfl, hbw1⟩
    go_wp2
    go_ret
    exact ⟨rfl, hbw1⟩
  go_enter Try.func10, Try.ntmps10
  go_wp2_with fail
  refine (known_any _).mono ?_
  rintro _ w1 ⟨rfl, hbw⟩
  go_wp2_with fail
  refine (token_any n ls _ hn (by omega)).mono ?_
  rintro _ w2 ⟨rfl, hb2⟩
  replace hbw := hbw.trans (hb2.mono hbw.size)
  clear hb2 hsz
  go_wp2_with fail
  refine (token_any m lt _ hm (by omega)).mono ?_
  rintro _ w2 ⟨rfl, hb2⟩
  replace hbw := hbw.trans (hb2.mono hbw.size)
  clear hb2 htz
  obtain ⟨⟨ti0, ti1⟩, ⟨tc0, tc1⟩, ⟨te0, te1⟩, ⟨tr0, tr1⟩⟩ := tk_range n
  obtain ⟨⟨ui0, ui1⟩, ⟨uc0, uc1⟩, ⟨ue0, ue1⟩, ⟨ur0, ur1⟩⟩ := tk_range m
  have hnl := nameB_len ls
  have hml := nameB_len lt
  have HINJ : Hid ((issueB key (nameB ls) (tkI n) (tkC n) (tkE n) (tkR n) == issueB key (nameB lt) (tkI m) (tkC m) (tkE m) (tkR m)) = tokEq (nameB ls) (tkI n) (tkC n) (tkE n) (tkR n) (nameB lt) (tkI m) (tkC m) (tkE m) (tkR m)) :=
    Lib.hid (issue_inj key _ _ _ _ _ _ _ _ _ _ (by omega) (by omega) (nameB_ok ls) (nameB_ok lt) (by omega) (by omega) (by omega) (by omega) (by omega) (by omega) (by omega) (by omega))
  generalize tkI n = I at *
  generalize tkC n = C at *
  generalize tkE n = E at *
  generalize tkR n = R at *
  generalize nameB ls = nm at *
  generalize tkI m = I2 at *
  generalize tkC m = C2 at *
  generalize tkE m = E2 at *
  generalize tkR m = R2 at *
  generalize nameB lt = nm2 at *
  go_wp2_with (with_reducible refine stop_st 11 32 ?_)
  refine Stop.go (wpList_store_blk rfl rfl rfl rfl ((Blk.new w2 (tokV [] 0 0 0 0) 35).alloc _) rfl (size35 _ _ _ _ _) (by simp [tokV, Value.oneCell']) ?_)
  intro w3 hT hO3
  have hU : Blk w3 (w2.heap.size + 1) (tokV [] 0 0 0 0) 35 := Blk.only (Blk.newAt (by simp) _ 35) hO3 (by omega)
  have hb3 : Below w2.heap.size w2 w3 := (((Below.refl _ _).alloc (Nat.le_refl _) _).alloc (by simp) _).trans (hO3.below (Nat.le_refl _) (by simp; omega))
  have hgt0 := hbw.size
  replace hbw := hbw.trans (hb3.mono hbw.size)
  clear hO3 hb3
  have hlU := hU.lt
  generalize w2.heap.size = gt at *
  go_wp2_with (with_reducible refine stop_st 12 35 ?_)
  refine Stop.go (wpList_store_blk rfl rfl (by rfl) rfl hU rfl (size35 _ _ _ _ _) (by simp [tokV, Value.oneCell']) ?_)
  intro w4 hU4 hO4
  replace hT := hT.only hO4 (by omega)
  replace hbw := hbw.trans (hO4.below (by omega) hbw.size)
  clear hO4 hU
  obtain ⟨A, hA⟩ : ∃ A, A = issueB key nm I C E R := ⟨_, rfl⟩
  obtain ⟨B, hB⟩ : ∃ B, B = issueB key nm2 I2 C2 E2 R2 := ⟨_, rfl⟩
  have HAL : Hid (A.length = 1 + nm.length + 48) := Lib.hid (by
    rw [hA]; unfold issueB
    rw [List.length_append, macB_length, flat_cat]; omega)
  rw [← hA, ← hB] at HINJ
  have HA := Lib.hid hA
  have HB := Lib.hid hB
  clear hA hB
  have hkw := HK.out.ext hbw
  go_wp2_with fail
  refine wp_region_GE 0 (fun _ => false) (fun j => !(j == 2 || j == 5 || j == 6 || j == 7)) (fun ix => (lookL [(.slice ka key.length kc), .agg (tokV nm I C E R), undef, (.slice ka key.length kc), .agg (tokV nm2 I2 C2 E2 R2), undef, undef, undef] ix).getD undef) (ExtM 5 w4.heap.size) (fun _ j v u => ((j = 2 ∨ j = 6) → Byt u v A) ∧ ((j = 5 ∨ j = 7) → Byt u v B)) (by kernel_rfl) (by kernel_rfl) (by kernel_rfl) (by kernel_rfl) (ExtM.refl _ _) (fun _ _ _ => ExtM.trans) (ExtM.drew _ _ _) (fun _ _ _ _ _ hu hv => ⟨fun hj => (hv.1 hj).extM hu, fun hj => (hv.2 hj).extM hu⟩) (fun _ _ _ _ _ _ hv => hv) fun x => ?_
  refine GE_ex (v := (.slice ka key.length kc)) (ExtM.refl _ _) rfl rfl rfl (fun u hu hf => r_move (rho_base rfl rfl)) ?_
  refine GE_ex (v := .agg (tokV nm I C E R)) (ExtM.refl _ _) rfl rfl rfl (fun u hu hf => r_loadBlk (rho_base rfl rfl) (hT.extM (bt := 5) (by decide) hu) Try.underlying35 rfl (size35 _ _ _ _ _)) ?_
  refine GE_callp (f := 21) (args := #[(.slice ka key.length kc), .agg (tokV nm I C E R)]) rfl rfl (fun u => r_call pf21 (map2 (rho_env rfl) (rho_env rfl)) rfl) (fun u hu hf => ?_) ?_
  · refine (issue_any _ key nm I C E R u (hkw.extM hu) (by omega) (by omega) (by omega) (by omega) (by omega) (by omega)).mono ?_
    rintro _ u' ⟨iv, rfl, hI, hb⟩
    exact ⟨iv, rfl, ExtM.of hb hu.below.size, fun _ => by rw [HA.out]; exact hI, fun h => by omega⟩
  refine GE_ex (v := (.slice ka key.length kc)) (ExtM.refl _ _) rfl rfl rfl (fun u hu hf => r_move (rho_base rfl rfl)) ?_
  refine GE_ex (v := .agg (tokV nm2 I2 C2 E2 R2)) (ExtM.refl _ _) rfl rfl rfl (fun u hu hf => r_loadBlk (rho_base rfl rfl) (hU4.extM (bt := 5) (by decide) hu) Try.underlying35 rfl (size35 _ _ _ _ _)) ?_
  refine GE_callp (f := 21) (args := #[(.slice ka key.length kc), .agg (tokV nm2 I2 C2 E2 R2)]) rfl rfl (fun u => r_call pf21 (map2 (rho_env rfl) (rho_env rfl)) rfl) (fun u hu hf => ?_) ?_
  · refine (issue_any _ key nm2 I2 C2 E2 R2 u (hkw.extM hu) (by omega) (by omega) (by omega) (by omega) (by omega) (by omega)).mono ?_
    rintro _ u' ⟨iv, rfl, hI, hb⟩
    exact ⟨iv, rfl, ExtM.of hb hu.below.size, fun h => by omega, fun _ => by rw [HB.out]; exact hI⟩
  refine GE_any rfl rfl (fun u hu hf => ⟨_, u, r_assign (rho_env rfl), ExtM.refl _ _ _, fun _ => (hf 2 rfl (by decide) rfl).1 (.inl rfl), fun h => by omega⟩) ?_
  refine GE_any rfl rfl (fun u hu hf => ⟨_, u, r_assign (rho_env rfl), ExtM.refl _ _ _, fun h => by omega, fun _ => (hf 5 rfl (by decide) rfl).2 (.inl rfl)⟩) ?_
  refine GE_nil fun w5 hu hf => ?_
  rw [withEnv_norm (rfl : setsL _ 0 _ = [_, _, _, _, _, _, _, _, _, _, _, _, _, _, _, _, _, _, _, _, _, _, _, _, _, _, _, _, _, _, _, _, _, _, _, _, _, _, _, _, _, _, _, _, _, _, _, _, _, _, _, _, _, _, _, _, _, _, _, _, _])]
  have hbA := (hf 6 (by decide) rfl).1 (.inr rfl)
  have hbB := (hf 7 (by decide) rfl).2 (.inr rfl)
  have hT5 := hT.extM (bt := 5) (by decide) hu
  have hU5 := hU4.extM (bt := 5) (by decide) hu
  have hbw5 := hbw.trans (hu.below.mono hbw.size)
  clear hf hu hT hU4 hbw hkw
  generalize x 2 = x2 at *
  generalize x 5 = x5 at *
  generalize x 6 = x6 at *
  generalize x 7 = x7 at *
  obtain ⟨ia, ic, rfl, hic, him⟩ := hbA.len
  obtain ⟨ja, jc, rfl, hjc, hjm⟩ := hbB.len
  unfold maxLen at him hjm
  have k0 : w5.cell? ⟨gt, 0 + 0, none⟩ = some (.string ⟨nm.toArray⟩) := by rw [hT5.cell]; rfl
  go_wp2_with fail
  refine wp_region_GX 5 (fun ix => (lookL [(.slice ia A.length ic), .string ⟨A.toArray⟩, (.slice ja B.length jc), .string ⟨B.toArray⟩, .bool (tokEq nm I C E R nm2 I2 C2 E2 R2), .agg (tokV nm I C E R), .agg (tokV nm2 I2 C2 E2 R2), .bool (tokEq nm I C E R nm2 I2 C2 E2 R2), .bool true, .bool true, (.slice ia A.length ic), .int .i64 A.length, .pointer (some ⟨gt, 0 + 0, none⟩), .string ⟨nm.toArray⟩, .int .i64 nm.length, .int .i64 (1 + (nm.length : Int)), .int .i64 (1 + (nm.length : Int) + 48), .bool true, .bool true, .bool true] ix).getD undef) (by kernel_rfl) (by kernel_rfl) (by kernel_rfl) ?_
  refine GE_ex (v := (.slice ia A.length ic)) (ExtM.refl _ _) rfl rfl rfl (fun u hu hf => r_move (rho_base rfl rfl)) ?_
  refine GE_ex (v := .string ⟨A.toArray⟩) (ExtM.refl _ _) rfl rfl rfl (fun u hu hf => r_conv (rho_env rfl) (Byt.str (hbA.extM hu) Try.underlying23 Try.underlying5 Try.underlying9)) ?_
  refine GE_ex (v := (.slice ja B.length jc)) (ExtM.refl _ _) rfl rfl rfl (fun u hu hf => r_move (rho_base rfl rfl)) ?_
  refine GE_ex (v := .string ⟨B.toArray⟩) (ExtM.refl _ _) rfl rfl rfl (fun u hu hf => r_conv (rho_env rfl) (Byt.str (hbB.extM hu) Try.underlying23 Try.underlying5 Try.underlying9)) ?_
  refine GE_ex (v := .bool (tokEq nm I C E R nm2 I2 C2 E2 R2)) (ExtM.refl _ _) rfl rfl rfl (fun u hu hf => (r_eqS (rho_env rfl) (rho_env rfl)).trans (by rw [HINJ.out])) ?_
  refine GE_ex (v := .agg (tokV nm I C E R)) (ExtM.refl _ _) rfl rfl rfl (fun u hu hf => r_loadBlk (rho_base rfl rfl) (hT5.extM (bt := 5) (by decide) hu) Try.underlying35 rfl (size35 _ _ _ _ _)) ?_
  refine GE_ex (v := .agg (tokV nm2 I2 C2 E2 R2)) (ExtM.refl _ _) rfl rfl rfl (fun u hu hf => r_loadBlk (rho_base rfl rfl) (hU5.extM (bt := 5) (by decide) hu) Try.underlying35 rfl (size35 _ _ _ _ _)) ?_
  refine GE_ex (v := .bool (tokEq nm I C E R nm2 I2 C2 E2 R2)) (ExtM.refl _ _) rfl rfl rfl (fun u hu hf => (r_eqTok (rho_env rfl) (rho_env rfl))) ?_
  refine GE_ex (v := .bool true) (ExtM.refl _ _) rfl rfl rfl (fun u hu hf => (r_eqBool Try.underlying4 (rho_env rfl) (rho_env rfl)).trans (by simp)) ?_
  refine GE_ex (v := .bool true) (ExtM.refl _ _) rfl rfl rfl (fun u hu hf => r_move (rho_env rfl)) ?_
  refine GE_ex (v := (.slice ia A.length ic)) (ExtM.refl _ _) rfl rfl rfl (fun u hu hf => r_move (rho_base rfl rfl)) ?_
  refine GE_ex (v := .int .i64 A.length) (ExtM.refl _ _) rfl rfl rfl (fun u hu hf => r_lenSl (rho_env rfl) Try.underlying23) ?_
  refine GE_ex (v := .pointer (some ⟨gt, 0 + 0, none⟩)) (ExtM.refl _ _) rfl rfl rfl (fun u hu hf => r_fieldAddr (rho_base rfl rfl) fld35_0) ?_
  refine GE_ex (v := .string ⟨nm.toArray⟩) (ExtM.refl _ _) rfl rfl rfl (fun u hu hf => r_load (rho_env rfl) on9 (hu.cell k0)) ?_
  refine GE_ex (v := .int .i64 nm.length) (ExtM.refl _ _) rfl rfl rfl (fun u hu hf => r_lenS (s := ⟨nm.toArray⟩) (rho_env rfl) Try.underlying9) ?_
  refine GE_ex (v := .int .i64 (1 + (nm.length : Int))) (ExtM.refl _ _) rfl rfl rfl (fun u hu hf => r_addI rho_const (rho_env rfl) ⟨rfl, by omega⟩) ?_
  refine GE_ex (v := .int .i64 (1 + (nm.length : Int) + 48)) (ExtM.refl _ _) rfl rfl rfl (fun u hu hf => r_addI (rho_env rfl) rho_const ⟨rfl, by omega⟩) ?_
  refine GE_ex (v := .bool true) (ExtM.refl _ _) rfl rfl rfl (fun u hu hf => (r_eqlI (rho_env rfl) (rho_env rfl)).trans (by rw [beq_iff_eq.2 (by have := HAL.out; omega)])) ?_
  refine GE_ex (v := .bool true) (ExtM.refl _ _) rfl rfl rfl (fun u hu hf => r_pickT (rho_env rfl) (rho_env rfl)) ?_
  refine GE_ex (v := .bool true) (ExtM.refl _ _) rfl rfl rfl (fun u hu hf => r_assign (rho_env rfl)) ?_
  refine GE_nil fun w6 hu hf => ?_
  rw [withEnv_norm (rfl : setsL _ 0 _ = [_, _, _, _, _, _, _, _, _, _, _, _, _, _, _, _, _, _, _, _, _, _, _, _, _, _, _, _, _, _, _, _, _, _, _, _, _, _, _, _, _, _, _, _, _, _, _, _, _, _, _, _, _, _, _, _, _, _, _, _, _])]
  clear hf
  have hbz := hbw5.trans (hu.below.mono hbw5.size)
  clear hu
  go_wp2
  go_ret
  exact ⟨rfl, hbz⟩
end Go.Proofs.Ythpjihiikkhcjaa
