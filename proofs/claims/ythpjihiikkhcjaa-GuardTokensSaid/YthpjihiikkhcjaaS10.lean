/-
  A part of the proofs of this seat: laws of the walk, or contracts of the functions that the statements reach. No conditions but those that each theorem names.
-/
import Derived.Test.YthpjihiikkhcjaaGj
namespace Go.Proofs.Ythpjihiikkhcjaa
open Go.RowKit Go.Sp
set_option maxRecDepth 100000 in
set_option maxHeartbeats 8000000 in
theorem gtokens_any (kv : Value) (key : List UInt8) (n : Int) (s : ByteArray) (w : World) (hk : Byt w kv key) (hn : -9223372036854775808 ≤ n ∧ n ≤ 9223372036854775807) (_hs : s.size ≤ maxLen) :
    Calls Try.prog 4 #[kv, .int .i64 n, .string s] w fun e w' => e = .returned (.bool true) ∧ Below w.heap.size w w' := by
  obtain ⟨ls, rfl⟩ : ∃ l : List UInt8, s = ⟨l.toArray⟩ := ⟨s.data.toList, rfl⟩
  have hsz : (⟨ls.toArray⟩ : ByteArray).size = ls.length := rfl
  have HK := Lib.hid hk
  obtain ⟨ka, kc, rfl, hkc, hkm⟩ := hk.len
  unfold maxLen at hkm
  clear hk
  by_cases hk6 : (60 : Int) < (key.length : Int)
  · go_enter Try.func4, Try.ntmps4
    go_wp2_with fail
    refine (known_any _).mono ?_
    rintro _ w1 ⟨rfl, hbw1⟩
    go_wp2
    go_ret
    exact ⟨rfl, hbw1⟩
  by_cases hs4 : (40 : Int) < (ls.length : Int)
  · go_enter Try.func4, Try.ntmps4
    go_wp2_with fail
    refine (known_any _).mono ?_
    rintro _ w1 ⟨rfl, hbw1⟩
    go_wp2
    go_ret
    exact ⟨rfl, hbw1⟩
  go_enter Try.func4, Try.ntmps4
  go_wp2_with fail
  refine (known_any _).mono ?_
  rintro _ w1 ⟨rfl, hbw⟩
  go_wp2_with fail
  refine (token_any n ls _ hn (by omega)).mono ?_
  rintro _ w2 ⟨rfl, hb2⟩
  replace hbw := hbw.trans (hb2.mono hbw.size)
  clear hb2 hsz
  obtain ⟨⟨ti0, ti1⟩, ⟨tc0, tc1⟩, ⟨te0, te1⟩, ⟨tr0, tr1⟩⟩ := tk_range n
  have HNM := Lib.hid (nameB_ok ls)
  have hnl := nameB_len ls
  generalize tkI n = I at *
  generalize tkC n = C at *
  generalize tkE n = E at *
  generalize tkR n = R at *
  generalize nameB ls = nm at *
  go_wp2_with (with_reducible refine stop_st 7 23 ?_)
  refine Stop.go (wpList_store_blk rfl rfl rfl rfl (Blk.new w2 _ 35) rfl (size35 _ _ _ _ _) (by simp [tokV, Value.oneCell']) ?_)
  intro w3 hT hO3
  have hb3 : Below w2.heap.size w2 w3 := ((Below.refl _ _).alloc (Nat.le_refl _) _).trans (hO3.below (Nat.le_refl _) (by simp))
  replace hbw := hbw.trans (hb3.mono hbw.size)
  clear hO3 hb3
  generalize w2.heap.size = gt at *
  go_wp2_with (with_reducible refine stop_at 25 ?_)
  refine Stop.go (wpList_val rfl (r_loadBlk rfl hT Try.underlying35 rfl (size35 _ _ _ _ _)) ?_)
  go_wp2_with fail
  refine (issue_any _ key nm I C E R _ (HK.out.ext hbw) (by omega) (by omega) (by omega) (by omega) (by omega) (by omega)).mono ?_
  rintro _ w4 ⟨iv, rfl, hI, hb4⟩
  replace hbw := hbw.trans (hb4.mono hbw.size)
  replace hT := hT.ext hb4
  clear hb4
  have hrd : readM key (issueB key nm I C E R) = (tokV nm I C E R, true) := by
    rw [read_issue key nm I C E R (by omega) (by omega) (by omega) (by omega) (by omega), if_neg (by omega), HNM.out, if_neg (by decide)]
  have hIl : (issueB key nm I C E R).length = nm.length + 49 := by
    unfold issueB
    rw [List.length_append, macB_length, flat_cat]
  obtain ⟨B, hB⟩ : ∃ B, B = issueB key nm I C E R := ⟨_, rfl⟩
  rw [← hB] at hI hrd hIl
  have HB := Lib.hid hB
  have HRD := Lib.hid hrd
  have HIL := Lib.hid hIl
  have hI0 := hI
  obtain ⟨ia, ic, rfl, hic, him⟩ := hI.len
  unfold maxLen at him
  clear hB hrd hIl hI0
  go_wp2_with fail
  refine (read_any _ _ key B _ (HK.out.ext hbw) hI (by omega)).mono ?_
  rintro _ w5 ⟨rfl, hb5⟩
  rw [HRD.out]
  replace hbw := hbw.trans (hb5.mono hbw.size)
  replace hT := hT.ext hb5
  replace hI := hI.ext hb5
  clear hb5
  go_wp2_with (with_reducible refine stop_st 9 31 ?_)
  refine Stop.go (wpList_store_blk rfl rfl rfl rfl (Blk.new w5 _ 35) rfl (size35 _ _ _ _ _) (by simp [tokV, Value.oneCell']) ?_)
  intro w6 hU hO6
  have hb6 : Below w5.heap.size w5 w6 := ((Below.refl _ _).alloc (Nat.le_refl _) _).trans (hO6.below (Nat.le_refl _) (by simp))
  replace hbw := hbw.trans (hb6.mono hbw.size)
  replace hT := hT.ext hb6
  replace hI := hI.ext hb6
  clear hO6 hb6
  have hkw := HK.out.ext hbw
  go_wp2_with fail
  refine wp_region_GE 0 (fun _ => false) (fun j => !(j == 4)) (fun ix => (lookL [(.slice ia B.length ic), .string ⟨B.toArray⟩, (.slice ka key.length kc), .agg (tokV nm I C E R), undef, .string ⟨B.toArray⟩, .bool true, .bool true, .bool true, .bool true, .bool true, .agg (tokV nm I C E R), .agg (tokV nm I C E R), .bool true, .bool true, .bool true, (.slice ia B.length ic), .int .i64 B.length, .bool true, .bool true, .bool true] ix).getD undef) (ExtM 5 w6.heap.size) (fun _ j v u => j = 4 → Byt u v B) (by kernel_rfl) (by kernel_rfl) (by kernel_rfl) (by kernel_rfl) (ExtM.refl _ _) (fun _ _ _ => ExtM.trans) (ExtM.drew _ _ _) (fun _ _ _ _ _ hu hv => fun hj => (hv hj).extM hu) (fun _ _ _ _ _ _ hv => hv) fun x => ?_
  refine GE_ex (v := (.slice ia B.length ic)) (ExtM.refl _ _) rfl rfl rfl (fun u hu hf => r_move (rho_base rfl rfl)) ?_
  refine GE_ex (v := .string ⟨B.toArray⟩) (ExtM.refl _ _) rfl rfl rfl (fun u hu hf => r_conv (rho_env rfl) (Byt.str (hI.extM hu) Try.underlying23 Try.underlying5 Try.underlying9)) ?_
  refine GE_ex (v := (.slice ka key.length kc)) (ExtM.refl _ _) rfl rfl rfl (fun u hu hf => r_move (rho_base rfl rfl)) ?_
  refine GE_ex (v := .agg (tokV nm I C E R)) (ExtM.refl _ _) rfl rfl rfl (fun u hu hf => r_loadBlk (rho_base rfl rfl) (hT.extM (bt := 5) (by decide) hu) Try.underlying35 rfl (size35 _ _ _ _ _)) ?_
  refine GE_callp (f := 23) (args := #[(.slice ka key.length kc), .agg (tokV nm I C E R)]) rfl rfl (fun u => r_call pf23 (map2 (rho_env rfl) (rho_env rfl)) rfl) (fun u hu hf => ?_) ?_
  · refine (rissue_any _ key nm I C E R u (hkw.extM hu) (by omega) (by omega)).mono ?_
    rintro _ u' ⟨iv, rfl, hI, hb⟩
    exact ⟨iv, rfl, ExtM.of hb hu.below.size, fun _ => by rw [HB.out]; exact hI⟩
  refine GE_ex (v := .string ⟨B.toArray⟩) (ExtM.refl _ _) rfl rfl rfl (fun u hu hf => r_conv (rho_env rfl) (Byt.str ((hf 4 rfl (by decide) rfl) rfl) Try.underlying23 Try.underlying5 Try.underlying9)) ?_
  refine GE_ex (v := .bool true) (ExtM.refl _ _) rfl rfl rfl (fun u hu hf => (r_eqlS (rho_env rfl) (rho_env rfl))) ?_
  refine GE_ex (v := .bool true) (ExtM.refl _ _) rfl rfl rfl (fun u hu hf => r_move (rho_env rfl)) ?_
  refine GE_ex (v := .bool true) (ExtM.refl _ _) rfl rfl rfl (fun u hu hf => r_move (rho_base rfl rfl)) ?_
  refine GE_ex (v := .bool true) (ExtM.refl _ _) rfl rfl rfl (fun u hu hf => r_pickT (rho_env rfl) (rho_env rfl)) ?_
  refine GE_ex (v := .bool true) (ExtM.refl _ _) rfl rfl rfl (fun u hu hf => r_move (rho_env rfl)) ?_
  refine GE_ex (v := .agg (tokV nm I C E R)) (ExtM.refl _ _) rfl rfl rfl (fun u hu hf => r_loadBlk (rho_base rfl rfl) (hT.extM (bt := 5) (by decide) hu) Try.underlying35 rfl (size35 _ _ _ _ _)) ?_
  refine GE_ex (v := .agg (tokV nm I C E R)) (ExtM.refl _ _) rfl rfl rfl (fun u hu hf => r_loadBlk (rho_base rfl rfl) (hU.extM (bt := 5) (by decide) hu) Try.underlying35 rfl (size35 _ _ _ _ _)) ?_
  refine GE_ex (v := .bool true) (ExtM.refl _ _) rfl rfl rfl (fun u hu hf => (r_eqTok (rho_env rfl) (rho_env rfl)).trans (by rw [tokEq_self])) ?_
  refine GE_ex (v := .bool true) (ExtM.refl _ _) rfl rfl rfl (fun u hu hf => r_pickT (rho_env rfl) (rho_env rfl)) ?_
  refine GE_ex (v := .bool true) (ExtM.refl _ _) rfl rfl rfl (fun u hu hf => r_move (rho_env rfl)) ?_
  refine GE_ex (v := (.slice ia B.length ic)) (ExtM.refl _ _) rfl rfl rfl (fun u hu hf => r_move (rho_base rfl rfl)) ?_
  refine GE_ex (v := .int .i64 B.length) (ExtM.refl _ _) rfl rfl rfl (fun u hu hf => r_lenSl (rho_env rfl) Try.underlying23) ?_
  refine GE_ex (v := .bool true) (ExtM.refl _ _) rfl rfl rfl (fun u hu hf => (r_leqI (rho_env rfl) rho_const).trans (by rw [decide_eq_true (by have := HIL.out; omega)])) ?_
  refine GE_ex (v := .bool true) (ExtM.refl _ _) rfl rfl rfl (fun u hu hf => r_pickT (rho_env rfl) (rho_env rfl)) ?_
  refine GE_ex (v := .bool true) (ExtM.refl _ _) rfl rfl rfl (fun u hu hf => r_assign (rho_env rfl)) ?_
  refine GE_nil fun wz hu hf => ?_
  rw [withEnv_norm (rfl : setsL _ 0 _ = [_, _, _, _, _, _, _, _, _, _, _, _, _, _, _, _, _, _, _, _, _, _, _, _, _, _, _, _, _, _, _, _, _, _, _, _, _, _, _, _, _, _, _, _, _, _, _, _, _, _, _, _, _])]
  clear hf
  have hbz := hbw.trans (hu.below.mono hbw.size)
  clear hu
  go_wp2
  go_ret
  exact ⟨rfl, hbz⟩
end Go.Proofs.Ythpjihiikkhcjaa
