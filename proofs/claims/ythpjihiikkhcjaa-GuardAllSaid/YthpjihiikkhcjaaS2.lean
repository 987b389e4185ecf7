/-
  A part of the proofs of this seat: laws of the walk, or contracts of the functions that the statements reach. No conditions but those that each theorem names.
-/
import Derived.Test.YthpjihiikkhcjaaS1
namespace Go.Sp
open Go.RowKit
theorem r_extract {ρ : Operand → Value} {d : Option Tmp} {ty : TypeId} {pos : String} {aft : Array Edge} {g : Option (Nat × Bool)} {x : Operand} {P : Program} {w : World} {u v : Value} {k : Nat} (hx : ρ x = .tuple #[u, v]) (hk : k = 0 ∨ k = 1) : (execOp ρ ⟨d, .extract x k, ty, pos, aft, g⟩).run P w = .ok (.value (if k = 0 then u else v)) w := by
  rcases hk with rfl | rfl <;> simp [execOp, hx, Instr.extract]
theorem fills_plain (a q : Int) (hq : 0 ≤ q) : (tokM 0 a (a + q)).1 = min 5 (q / 10) ∧ tokM 5 a (a + q) = (5, a + q) := by
  unfold tokM
  by_cases h : a + q ≤ a
  · simp only [if_pos h]
    exact ⟨by omega, by congr 1; omega⟩
  · simp only [if_neg h]
    have e : a + q - a = q := by omega
    simp only [e]
    have h5 : max 0 (min (5 + min (q / 10) 5) 5) = 5 := by omega
    simp only [if_pos h5]
    refine ⟨?_, trivial⟩
    split <;> simp only <;> omega
end Go.Sp
namespace Go.Proofs.Ythpjihiikkhcjaa
open Go.RowKit Go.Sp
set_option maxRecDepth 100000 in
set_option maxHeartbeats 4000000 in
theorem fills_any (at_ b : Int) (w : World) (hat : -9223372036854775808 ≤ at_ ∧ at_ ≤ 9223372036854775807) (hb : -9223372036854775808 ≤ b ∧ b ≤ 9223372036854775807) :
    Calls Try.prog 7 #[.int .i64 at_, .int .i64 b] w fun e w' => e = .returned (.bool true) ∧ Below w.heap.size w w' := by
  go_enter Try.func7, Try.ntmps7
  go_wp2_with fail
  refine (known_any _).mono ?_
  rintro _ w1 ⟨rfl, hbw1⟩
  go_wp2_with fail
  refine (bucketrow_any 0 at_ _ (by decide) hat).mono ?_
  rintro _ w2 ⟨rfl, hb2⟩
  have hbw2 := hbw1.trans (hb2.mono hbw1.size)
  have ha5 : 0 ≤ at_ % 500 ∧ at_ % 500 ≤ 499 := by omega
  generalize at_ % 500 = a0 at *
  rw [show (0 : Int) % 6 = 0 from rfl]
  clear hb2 hbw1
  go_wp2_with (refine (show wpList _ _ _ (⟨none, .store 28 (.tmp 5) (.tmp 13), _, _, _, _⟩ :: _) _ _ from stop_here ?_))
  refine Stop.go (wpList_store_blk rfl rfl rfl rfl (Blk.new w2 _ 28) rfl (size28 _ _ _ _ _) (by simp [recV, Value.oneCell']) ?_)
  intro w3 hR3 hO3
  have hb3 : Below w2.heap.size w2 w3 := ((Below.refl _ _).alloc (Nat.le_refl _) _).trans (hO3.below (Nat.le_refl _) (by simp))
  have hbw3 := hbw2.trans (hb3.mono hbw2.size)
  have hl2 := hbw2.size
  clear hO3 hb3 hbw2
  obtain ⟨q, hq⟩ : ∃ q, q = b % 200 := ⟨_, rfl⟩
  have hq0 : 0 ≤ q ∧ q ≤ 199 := by omega
  have HQ := Lib.hid hq
  clear hq
  obtain ⟨hf1, hf2⟩ := fills_plain a0 q hq0.1
  have HF1 := Lib.hid hf1
  have HF2 := Lib.hid hf2
  clear hf1 hf2
  have hc20 : w3.cell? ⟨w2.heap.size, 20, none⟩ = some (.int .i64 0) := by rw [hR3.cell]; rfl
  have hf20 := hR3.frozen 20
  go_wp2
  have hR4 : Blk (w3.setCell ⟨w2.heap.size, 20, none⟩ (.int .i64 0)) w2.heap.size (recV 1 ⟨#[117]⟩ 0 a0 0) 28 := hR3.set 20 _
  have hbw4 := hbw3.setCell (p := ⟨w2.heap.size, 20, none⟩) hl2 (.int .i64 0)
  clear hc20 hf20 hR3 hbw3
  generalize w3.setCell ⟨w2.heap.size, 20, none⟩ (.int .i64 0) = w4 at *
  have hx : ∀ {u u' : World}, ExtM 5 w4.heap.size w4 u → Below u.heap.size u u' → ExtM 5 w4.heap.size u u' := fun h k => ExtM.of k h.below.size
  have hc21 : w4.cell? ⟨w2.heap.size, 0 + 21, none⟩ = some (.int .i64 a0) := by rw [hR4.cell]; rfl
  obtain ⟨N2, hN2⟩ : ∃ N2, N2 = (tokM 0 a0 (a0 + q)).2 := ⟨_, rfl⟩
  refine wp_region_VE (bt := 5) (fun _ => true) (fun ix => (lookL [.agg (recV 1 ⟨#[117]⟩ 0 a0 0), .pointer (some ⟨w2.heap.size, 0 + 21, none⟩), .int .i64 a0, .int .i64 b, .int .i64 q, .int .i64 (a0 + q), .tuple #[.int .i64 (min 5 (q / 10)), .int .i64 N2], .tuple #[.int .i64 (min 5 (q / 10)), .int .i64 N2], .int .i64 (min 5 (q / 10)), .int .i64 N2, .int .i64 (min 5 (q / 10)), .int .i64 N2] ix).getD undef) (fun _ _ _ => True) (by kernel_rfl) (by kernel_rfl) (by kernel_rfl) (fun _ _ _ _ _ _ => trivial) fun x => ?_
  refine VE_ex (v := .agg (recV 1 ⟨#[117]⟩ 0 a0 0)) rfl rfl rfl (fun u hu hf => r_loadBlk (rho_base rfl rfl) (hR4.extM (by decide) hu) Try.underlying28 rfl (size28 _ _ _ _ _)) ?_
  refine VE_ex (v := .pointer (some ⟨w2.heap.size, 0 + 21, none⟩)) rfl rfl rfl (fun u hu hf => r_fieldAddr (rho_base rfl rfl) fld28_7) ?_
  refine VE_ex (v := .int .i64 a0) rfl rfl rfl (fun u hu hf => r_load (rho_env rfl) on3 (hu.cell hc21)) ?_
  refine VE_ex (v := .int .i64 b) rfl rfl rfl (fun u hu hf => r_move (rho_base rfl rfl)) ?_
  refine VE_call (v := .int .i64 q) (f := 18) (args := #[.int .i64 b, .int .i64 200]) rfl rfl rfl (fun u => r_call pf18 (map2 (rho_env rfl) rho_const) rfl) (fun u hu hf => ?_) ?_
  · refine (within_any b 200 hb (by decide) (by decide) u).mono ?_
    rintro _ u' ⟨rfl, rfl⟩
    exact ⟨by rw [HQ.out], ExtM.refl _ _ _⟩
  refine VE_ex (v := .int .i64 (a0 + q)) rfl rfl rfl (fun u hu hf => r_addI (rho_env rfl) (rho_env rfl) ⟨rfl, by omega⟩) ?_
  refine VE_call (v := .tuple #[.int .i64 (min 5 (q / 10)), .int .i64 N2]) (f := 19) (args := #[.agg (recV 1 ⟨#[117]⟩ 0 a0 0), .int .i64 (a0 + q)]) rfl rfl rfl (fun u => r_call pf19 (map2 (rho_env rfl) (rho_env rfl)) rfl) (fun u hu hf => ?_) ?_
  · refine (tokens_any 1 _ 0 a0 0 (a0 + q) u (by decide) (by omega) (by omega)).mono ?_
    rintro _ u' ⟨rfl, hb'⟩
    exact ⟨by rw [HF1.out, hN2], hx hu hb'⟩
  refine VE_ex (v := .tuple #[.int .i64 (min 5 (q / 10)), .int .i64 N2]) rfl rfl rfl (fun u hu hf => r_move (rho_env rfl)) ?_
  refine VE_ex (v := .int .i64 (min 5 (q / 10))) rfl rfl rfl (fun u hu hf => (r_extract (k := 0) (rho_env rfl) (by simp)).trans rfl) ?_
  refine VE_ex (v := .int .i64 N2) rfl rfl rfl (fun u hu hf => (r_extract (k := 1) (rho_env rfl) (by simp)).trans rfl) ?_
  refine VE_ex (v := .int .i64 (min 5 (q / 10))) rfl rfl rfl (fun u hu hf => r_assign (rho_env rfl)) ?_
  refine VE_ex (v := .int .i64 N2) rfl rfl rfl (fun u hu hf => r_assign (rho_env rfl)) ?_
  refine VE_nil fun u hu hf => ?_
  rw [withEnv_norm (rfl : setsL _ 0 _ = [_, _, _, _, _, _, _, _, _, _, _, _, _, _, _, _, _, _, _, _, _, _, _, _, _, _, _, _, _, _, _, _, _, _, _, _, _, _, _, _, _, _, _, _, _, _, _, _, _, _, _, _, _, _, _])]
  have hR5 := hR4.extM (by decide) hu
  have hbw5 := hbw4.trans (hu.below.mono hbw4.size)
  clear hf hx hc21 hR4 hbw4 hu hN2
  have hc20 : u.cell? ⟨w2.heap.size, 20, none⟩ = some (.int .i64 0) := by rw [hR5.cell]; rfl
  have hf20 := hR5.frozen 20
  go_wp2
  have hR6 : Blk (u.setCell ⟨w2.heap.size, 20, none⟩ (.int .i64 5)) w2.heap.size (recV 1 ⟨#[117]⟩ 5 a0 0) 28 := hR5.set 20 _
  have hbw6 := hbw5.setCell (p := ⟨w2.heap.size, 20, none⟩) hl2 (.int .i64 5)
  clear hc20 hf20 hR5 hbw5
  generalize u.setCell ⟨w2.heap.size, 20, none⟩ (.int .i64 5) = w4 at *
  have hx : ∀ {u u' : World}, ExtM 5 w4.heap.size w4 u → Below u.heap.size u u' → ExtM 5 w4.heap.size u u' := fun h k => ExtM.of k h.below.size
  have hc21 : w4.cell? ⟨w2.heap.size, 0 + 21, none⟩ = some (.int .i64 a0) := by rw [hR6.cell]; rfl
  refine wp_region_VE (bt := 5) (fun _ => true) (fun ix => (lookL [.agg (recV 1 ⟨#[117]⟩ 5 a0 0), .pointer (some ⟨w2.heap.size, 0 + 21, none⟩), .int .i64 a0, .int .i64 b, .int .i64 q, .int .i64 (a0 + q), .tuple #[.int .i64 5, .int .i64 (a0 + q)], .tuple #[.int .i64 5, .int .i64 (a0 + q)], .int .i64 5, .int .i64 (a0 + q), .int .i64 5, .int .i64 (a0 + q)] ix).getD undef) (fun _ _ _ => True) (by kernel_rfl) (by kernel_rfl) (by kernel_rfl) (fun _ _ _ _ _ _ => trivial) fun x => ?_
  refine VE_ex (v := .agg (recV 1 ⟨#[117]⟩ 5 a0 0)) rfl rfl rfl (fun u hu hf => r_loadBlk (rho_base rfl rfl) (hR6.extM (by decide) hu) Try.underlying28 rfl (size28 _ _ _ _ _)) ?_
  refine VE_ex (v := .pointer (some ⟨w2.heap.size, 0 + 21, none⟩)) rfl rfl rfl (fun u hu hf => r_fieldAddr (rho_base rfl rfl) fld28_7) ?_
  refine VE_ex (v := .int .i64 a0) rfl rfl rfl (fun u hu hf => r_load (rho_env rfl) on3 (hu.cell hc21)) ?_
  refine VE_ex (v := .int .i64 b) rfl rfl rfl (fun u hu hf => r_move (rho_base rfl rfl)) ?_
  refine VE_call (v := .int .i64 q) (f := 18) (args := #[.int .i64 b, .int .i64 200]) rfl rfl rfl (fun u => r_call pf18 (map2 (rho_env rfl) rho_const) rfl) (fun u hu hf => ?_) ?_
  · refine (within_any b 200 hb (by decide) (by decide) u).mono ?_
    rintro _ u' ⟨rfl, rfl⟩
    exact ⟨by rw [HQ.out], ExtM.refl _ _ _⟩
  refine VE_ex (v := .int .i64 (a0 + q)) rfl rfl rfl (fun u hu hf => r_addI (rho_env rfl) (rho_env rfl) ⟨rfl, by omega⟩) ?_
  refine VE_call (v := .tuple #[.int .i64 5, .int .i64 (a0 + q)]) (f := 19) (args := #[.agg (recV 1 ⟨#[117]⟩ 5 a0 0), .int .i64 (a0 + q)]) rfl rfl rfl (fun u => r_call pf19 (map2 (rho_env rfl) (rho_env rfl)) rfl) (fun u hu hf => ?_) ?_
  · refine (tokens_any 1 _ 5 a0 0 (a0 + q) u (by decide) (by omega) (by omega)).mono ?_
    rintro _ u' ⟨rfl, hb'⟩
    exact ⟨by rw [HF2.out], hx hu hb'⟩
  refine VE_ex (v := .tuple #[.int .i64 5, .int .i64 (a0 + q)]) rfl rfl rfl (fun u hu hf => r_move (rho_env rfl)) ?_
  refine VE_ex (v := .int .i64 5) rfl rfl rfl (fun u hu hf => (r_extract (k := 0) (rho_env rfl) (by simp)).trans rfl) ?_
  refine VE_ex (v := .int .i64 (a0 + q)) rfl rfl rfl (fun u hu hf => (r_extract (k := 1) (rho_env rfl) (by simp)).trans rfl) ?_
  refine VE_ex (v := .int .i64 5) rfl rfl rfl (fun u hu hf => r_assign (rho_env rfl)) ?_
  refine VE_ex (v := .int .i64 (a0 + q)) rfl rfl rfl (fun u hu hf => r_assign (rho_env rfl)) ?_
  refine VE_nil fun u hu hf => ?_
  rw [withEnv_norm (rfl : setsL _ 0 _ = [_, _, _, _, _, _, _, _, _, _, _, _, _, _, _, _, _, _, _, _, _, _, _, _, _, _, _, _, _, _, _, _, _, _, _, _, _, _, _, _, _, _, _, _, _, _, _, _, _, _, _, _, _, _, _])]
  have hR7 := hR6.extM (by decide) hu
  have hbw7 := hbw6.trans (hu.below.mono hbw6.size)
  clear hf hx hc21 hR6 hbw6 hu
  generalize u = w7 at *
  have hc21 : w7.cell? ⟨w2.heap.size, 0 + 21, none⟩ = some (.int .i64 a0) := by rw [hR7.cell]; rfl
  go_wp2
  refine wp_region_VE (bt := 5) (fun _ => true) (fun ix => (lookL [.int .i64 (min 5 (q / 10)), .int .i64 b, .int .i64 q, .int .i64 (q / 10), .int .i64 (min 5 (q / 10)), .bool true, .bool true, .int .i64 5, .bool true, .bool true, .bool true, .int .i64 (a0 + q), .pointer (some ⟨w2.heap.size, 0 + 21, none⟩), .int .i64 a0, .int .i64 b, .int .i64 q, .int .i64 (a0 + q), .bool true, .bool true, .bool true] ix).getD undef) (fun _ _ _ => True) (by kernel_rfl) (by kernel_rfl) (by kernel_rfl) (fun _ _ _ _ _ _ => trivial) fun x => ?_
  refine VE_ex (v := .int .i64 (min 5 (q / 10))) rfl rfl rfl (fun u hu hf => r_move (rho_base rfl rfl)) ?_
  refine VE_ex (v := .int .i64 b) rfl rfl rfl (fun u hu hf => r_move (rho_base rfl rfl)) ?_
  refine VE_call (v := .int .i64 q) (f := 18) (args := #[.int .i64 b, .int .i64 200]) rfl rfl rfl (fun u => r_call pf18 (map2 (rho_env rfl) rho_const) rfl) (fun u hu hf => ?_) ?_
  · refine (within_any b 200 hb (by decide) (by decide) u).mono ?_
    rintro _ u' ⟨rfl, rfl⟩
    exact ⟨by rw [HQ.out], ExtM.refl _ _ _⟩
  refine VE_ex (v := .int .i64 (q / 10)) rfl rfl rfl (fun u hu hf => r_quoI (rho_env rfl) rho_const ⟨hq0.1, by omega⟩ (by decide) rfl) ?_
  refine VE_ex (v := .int .i64 (min 5 (q / 10))) rfl rfl rfl (fun u hu hf => r_min rho_const (rho_env rfl) rfl) ?_
  refine VE_ex (v := .bool true) rfl rfl rfl (fun u hu hf => (r_eqlI (rho_env rfl) (rho_env rfl)).trans (by simp)) ?_
  refine VE_ex (v := .bool true) rfl rfl rfl (fun u hu hf => r_move (rho_env rfl)) ?_
  refine VE_ex (v := .int .i64 5) rfl rfl rfl (fun u hu hf => r_move (rho_base rfl rfl)) ?_
  refine VE_ex (v := .bool true) rfl rfl rfl (fun u hu hf => (r_eqlI (rho_env rfl) rho_const).trans (by simp)) ?_
  refine VE_ex (v := .bool true) rfl rfl rfl (fun u hu hf => r_pickT (rho_env rfl) (rho_env rfl)) ?_
  refine VE_ex (v := .bool true) rfl rfl rfl (fun u hu hf => r_move (rho_env rfl)) ?_
  refine VE_ex (v := .int .i64 (a0 + q)) rfl rfl rfl (fun u hu hf => r_move (rho_base rfl rfl)) ?_
  refine VE_ex (v := .pointer (some ⟨w2.heap.size, 0 + 21, none⟩)) rfl rfl rfl (fun u hu hf => r_fieldAddr (rho_base rfl rfl) fld28_7) ?_
  refine VE_ex (v := .int .i64 a0) rfl rfl rfl (fun u hu hf => r_load (rho_env rfl) on3 (hu.cell hc21)) ?_
  refine VE_ex (v := .int .i64 b) rfl rfl rfl (fun u hu hf => r_move (rho_base rfl rfl)) ?_
  refine VE_call (v := .int .i64 q) (f := 18) (args := #[.int .i64 b, .int .i64 200]) rfl rfl rfl (fun u => r_call pf18 (map2 (rho_env rfl) rho_const) rfl) (fun u hu hf => ?_) ?_
  · refine (within_any b 200 hb (by decide) (by decide) u).mono ?_
    rintro _ u' ⟨rfl, rfl⟩
    exact ⟨by rw [HQ.out], ExtM.refl _ _ _⟩
  refine VE_ex (v := .int .i64 (a0 + q)) rfl rfl rfl (fun u hu hf => r_addI (rho_env rfl) (rho_env rfl) ⟨rfl, by omega⟩) ?_
  refine VE_ex (v := .bool true) rfl rfl rfl (fun u hu hf => (r_eqlI (rho_env rfl) (rho_env rfl)).trans (by simp)) ?_
  refine VE_ex (v := .bool true) rfl rfl rfl (fun u hu hf => r_pickT (rho_env rfl) (rho_env rfl)) ?_
  refine VE_ex (v := .bool true) rfl rfl rfl (fun u hu hf => r_assign (rho_env rfl)) ?_
  refine VE_nil fun u hu hf => ?_
  rw [withEnv_norm (rfl : setsL _ 0 _ = [_, _, _, _, _, _, _, _, _, _, _, _, _, _, _, _, _, _, _, _, _, _, _, _, _, _, _, _, _, _, _, _, _, _, _, _, _, _, _, _, _, _, _, _, _, _, _, _, _, _, _, _, _, _, _])]
  have hbw8 := hbw7.trans (hu.below.mono hbw7.size)
  clear hf
  go_wp2
  go_ret
  exact ⟨rfl, hbw8⟩
end Go.Proofs.Ythpjihiikkhcjaa
