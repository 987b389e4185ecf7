/-
  A part of the proofs of this seat: laws of the walk, or contracts of the functions that the statements reach. No conditions but those that each theorem names.
-/
import Derived.Test.YthpjihiikkhcjaaWi
namespace Go.Sp
open Go.RowKit
/-- A record of guard's laws: no rows, no numbers of 256 bits. -/
def recV (p : Int) (nm : ByteArray) (t a v : Int) : Array Value := #[.int .i64 p, .string nm, .slice none 0 0, .int .u32 0, .int .u32 0, .int .u32 0, .int .u32 0, .int .u32 0, .int .u32 0, .int .u32 0, .int .u32 0, .int .u32 0, .int .u32 0, .int .u32 0, .int .u32 0, .int .u32 0, .int .u32 0, .int .u32 0, .int .u32 0, .slice none 0 0, .int .i64 t, .int .i64 a, .int .i64 v]
/-- How many tokens by now, and since when. -/
def tokM (t a now : Int) : Int × Int :=
  if now ≤ a then (t, a)
  else if max 0 (min (t + min ((now - a) / 10) 5) 5) = 5 then (5, now)
  else (max 0 (min (t + min ((now - a) / 10) 5) 5), a + (now - a) / 10 * 10)
theorem r_quoI {ρ : Operand → Value} {d : Option Tmp} {t t' ty : TypeId} {pos : String} {aft : Array Edge} {g : Option (Nat × Bool)} {x y : Operand} {P : Program} {w : World} {a b c : Int} (hx : ρ x = .int .i64 a) (hy : ρ y = .int .i64 b) (ha : 0 ≤ a ∧ a ≤ 9223372036854775807) (hb : 0 < b) (hc : a / b = c) :
    (execOp ρ ⟨d, .binOp .quo t x y t', ty, pos, aft, g⟩).run P w = .ok (.value (.int .i64 c)) w := by
  have h1 : a.tdiv b = c := by rw [Int.tdiv_eq_ediv_of_nonneg ha.1]; exact hc
  have h2 : 0 ≤ c := by rw [← hc]; exact Int.ediv_nonneg ha.1 (by omega)
  have h3 : c ≤ a := by rw [← hc]; exact Int.ediv_le_self _ ha.1
  refine r_bin hx hy rfl ?_
  have hb0 : b ≠ 0 := by omega
  have hw : IntKind.i64.wrap c = c := by rw [IntKind.wrap_i64]; omega
  simp [binOp, Op.intDiv, hb0, h1, hw]
theorem tokM_le (t a now : Int) (h : a < now) : 0 ≤ (tokM t a now).1 ∧ (tokM t a now).1 ≤ 5 ∧ a ≤ (tokM t a now).2 ∧ (tokM t a now).2 ≤ now := by
  unfold tokM
  rw [if_neg (by omega)]
  split <;> (refine ⟨?_, ?_, ?_, ?_⟩ <;> simp only <;> omega)
end Go.Sp
namespace Go.Proofs.Ythpjihiikkhcjaa
open Go.RowKit Go.Sp
set_option maxHeartbeats 1000000 in
theorem bucket_any (w : World) : Calls Try.prog 35 #[] w fun e w' => e = .returned (.agg #[.int .i64 0, .int .i64 5]) ∧ Below w.heap.size w w' := by
  go_enter Try.func35, Try.ntmps35
  go_wp2
  exact bodyPost_ret (results_cell_row rfl _ _ w.heap.size 59 _ (0, 0) _ rfl (Blk.new w _ 59) Try.underlying59 rfl (by kernel_rfl)) rfl ⟨rfl, (Below.refl _ _).alloc (Nat.le_refl _) _⟩
set_option maxHeartbeats 1000000 in
theorem into_any (n : Int) (w : World) : Calls Try.prog 36 #[.agg #[.int .i64 0, .int .i64 5], .int .i64 n] w fun e w' => e = .returned (.int .i64 (max 0 (min n 5))) ∧ Below w.heap.size w w' := by
  go_enter Try.func36, Try.ntmps36
  go_wp2_with (refine (show wpList _ _ _ (⟨some 10, .call _, _, _, _, _⟩ :: _) _ _ from stop_here ?_))
  refine Stop.go (wpList_val rfl (r_min rfl rfl rfl) ?_)
  go_wp2_with (refine (show wpList _ _ _ (⟨some 11, .call _, _, _, _, _⟩ :: _) _ _ from stop_here ?_))
  refine Stop.go (wpList_val rfl (r_max rfl rfl rfl) ?_)
  go_wp2
  go_ret
  exact ⟨rfl, (Below.refl _ _).alloc (Nat.le_refl _) _⟩
set_option maxHeartbeats 1000000 in
theorem bucketrow_any (n a : Int) (w : World) (hn : -9223372036854775808 ≤ n ∧ n ≤ 9223372036854775807) (ha : -9223372036854775808 ≤ a ∧ a ≤ 9223372036854775807) : Calls Try.prog 17 #[.int .i64 n, .int .i64 a] w fun e w' => e = .returned (.agg (recV 1 ⟨#[117]⟩ (n % 6) (a % 500) 0)) ∧ Below w.heap.size w w' := by
  go_enter Try.func17, Try.ntmps17
  go_wp2_with fail
  refine (within_any n 6 hn (by decide) (by decide) _).mono ?_
  rintro _ wx ⟨rfl, rfl⟩
  go_wp2_with fail
  refine (within_any a 500 ha (by decide) (by decide) _).mono ?_
  rintro _ wx ⟨rfl, rfl⟩
  go_wp2_with (refine (show wpList _ _ _ (⟨none, .store 28 (.tmp 4) (.tmp 9), _, _, _, _⟩ :: _) _ _ from stop_here ?_))
  refine Stop.go (wpList_store_blk rfl rfl rfl rfl (Blk.new w _ 28) rfl (by kernel_rfl) (by simp [Value.oneCell']) ?_)
  intro w2 hR hO
  have hb := ((Below.refl w.heap.size w).alloc (Nat.le_refl _) _).trans (hO.below (Nat.le_refl _) (by simp))
  clear hO
  go_wp2
  exact bodyPost_ret (results_cell_row rfl _ _ w.heap.size 28 _ (0, 0) _ rfl hR Try.underlying28 rfl (by kernel_rfl)) rfl ⟨rfl, hb⟩
theorem pf35 : plainFn Try.prog 35 = true := by kernel_rfl
theorem pf36 : plainFn Try.prog 36 = true := by kernel_rfl
theorem fld28_6 : fieldOff Try.prog 28 6 = some 20 := by kernel_rfl
theorem fld28_7 : fieldOff Try.prog 28 7 = some 21 := by kernel_rfl
set_option maxRecDepth 100000 in
set_option maxHeartbeats 2000000 in
theorem tokens_any (p : Int) (nm : ByteArray) (t a v now : Int) (w : World) (ht : 0 ≤ t ∧ t ≤ 5) (ha : 0 ≤ a ∧ a ≤ 1000000000000) (hn : -9223372036854775808 ≤ now ∧ now ≤ 9223372036854775807) :
    Calls Try.prog 19 #[.agg (recV p nm t a v), .int .i64 now] w fun e w' => e = .returned (.tuple #[.int .i64 (tokM t a now).1, .int .i64 (tokM t a now).2]) ∧ Below w.heap.size w w' := by
  have hR : Blk (w.alloc (.cells (recV p nm t a v) 28)) w.heap.size (recV p nm t a v) 28 := Blk.new w _ 28
  have hbw : Below w.heap.size w (w.alloc (.cells (recV p nm t a v) 28)) := (Below.refl _ _).alloc (Nat.le_refl _) _
  have hrv : recV p nm t a v = #[.int .i64 p, .string nm, .slice none 0 0, .int .u32 0, .int .u32 0, .int .u32 0, .int .u32 0, .int .u32 0, .int .u32 0, .int .u32 0, .int .u32 0, .int .u32 0, .int .u32 0, .int .u32 0, .int .u32 0, .int .u32 0, .int .u32 0, .int .u32 0, .int .u32 0, .slice none 0 0, .int .i64 t, .int .i64 a, .int .i64 v] := rfl
  by_cases h : now ≤ a
  · have e : tokM t a now = (t, a) := by unfold tokM; rw [if_pos h]
    rw [e]
    clear e
    rw [hrv]
    go_enter Try.func19, Try.ntmps19
    go_wp2
    rw [← hrv]
    generalize w.alloc (.cells (recV p nm t a v) 28) = w1 at *
    have hc6 : w1.cell? ⟨w.heap.size, 0 + 20, none⟩ = some (.int .i64 t) := by rw [hR.cell]; rfl
    have hc7 : w1.cell? ⟨w.heap.size, 0 + 21, none⟩ = some (.int .i64 a) := by rw [hR.cell]; rfl
    refine wp_region_VE (bt := 5) (fun _ => true) (fun ix => (lookL [.pointer (some ⟨w.heap.size, 0 + 20, none⟩), .int .i64 t, .pointer (some ⟨w.heap.size, 0 + 21, none⟩), .int .i64 a, .int .i64 t, .int .i64 a] ix).getD undef) (fun _ _ _ => True) (by kernel_rfl) (by kernel_rfl) (by kernel_rfl) (fun _ _ _ _ _ _ => trivial) fun x => ?_
    refine VE_ex (v := .pointer (some ⟨w.heap.size, 0 + 20, none⟩)) rfl rfl rfl (fun u hu hf => r_fieldAddr (rho_base rfl rfl) fld28_6) ?_
    refine VE_ex (v := .int .i64 t) rfl rfl rfl (fun u hu hf => r_load (rho_env rfl) on3 (hu.cell hc6)) ?_
    refine VE_ex (v := .pointer (some ⟨w.heap.size, 0 + 21, none⟩)) rfl rfl rfl (fun u hu hf => r_fieldAddr (rho_base rfl rfl) fld28_7) ?_
    refine VE_ex (v := .int .i64 a) rfl rfl rfl (fun u hu hf => r_load (rho_env rfl) on3 (hu.cell hc7)) ?_
    refine VE_ex (v := .int .i64 t) rfl rfl rfl (fun u hu hf => r_assign (rho_env rfl)) ?_
    refine VE_ex (v := .int .i64 a) rfl rfl rfl (fun u hu hf => r_assign (rho_env rfl)) ?_
    refine VE_nil fun u hu hf => ?_
    rw [withEnv_norm (rfl : setsL _ 0 _ = [_, _, _, _, _, _, _, _, _, _, _, _, _, _, _, _, _, _, _, _, _, _, _, _, _, _, _, _, _, _, _, _, _, _, _, _, _])]
    have hb2 := hbw.trans (hu.below.mono hbw.size)
    clear hf
    go_wp2
    go_ret2
    exact ⟨rfl, hb2⟩
  · obtain ⟨m, hm⟩ : ∃ m : Int, m = (now - a) / 10 := ⟨_, rfl⟩
    obtain ⟨T, hT⟩ : ∃ T : Int, T = max 0 (min (t + min m 5) 5) := ⟨_, rfl⟩
    have hm0 : 0 ≤ m := by omega
    have hm1 : m * 10 ≤ now - a := by omega
    have e : tokM t a now = if T = 5 then (5, now) else (T, a + m * 10) := by unfold tokM; rw [if_neg h, hT, hm]
    obtain ⟨X1, hX1⟩ : ∃ x, x = (tokM t a now).1 := ⟨_, rfl⟩
    obtain ⟨X2, hX2⟩ : ∃ x, x = (tokM t a now).2 := ⟨_, rfl⟩
    rw [← hX1, ← hX2]
    rw [e] at hX1 hX2
    have HX1 := Lib.hid hX1
    have HX2 := Lib.hid hX2
    clear hX1 hX2
    have HM := Lib.hid hm
    have HT := Lib.hid hT
    clear e hm hT
    rw [hrv]
    have h' : a < now := by omega
    clear h
    go_enter Try.func19, Try.ntmps19
    go_wp2_with (refine (show wpList _ _ _ (⟨some 18, _, _, _, _, _⟩ :: _) _ _ from stop_here ?_))
    refine Stop.go (wpList_val rfl (r_subI rfl rfl ⟨rfl, by omega, by omega⟩) ?_)
    go_wp2_with (refine (show wpList _ _ _ (⟨some 19, _, _, _, _, _⟩ :: _) _ _ from stop_here ?_))
    refine Stop.go (wpList_val rfl (r_quoI rfl rfl ⟨by omega, by omega⟩ (by decide) HM.out.symm) ?_)
    go_wp2
    rw [← hrv]
    generalize w.alloc (.cells (recV p nm t a v) 28) = w1 at *
    have hc6 : w1.cell? ⟨w.heap.size, 0 + 20, none⟩ = some (.int .i64 t) := by rw [hR.cell]; rfl
    have hc7 : w1.cell? ⟨w.heap.size, 0 + 21, none⟩ = some (.int .i64 a) := by rw [hR.cell]; rfl
    have hx : ∀ {u u' : World}, ExtM 5 w1.heap.size w1 u → Below u.heap.size u u' → ExtM 5 w1.heap.size u u' := fun h k => ExtM.of k h.below.size
    refine wp_region_VE (bt := 5) (fun _ => true) (fun ix => (lookL [.agg #[.int .i64 0, .int .i64 5], .pointer (some ⟨w.heap.size, 0 + 20, none⟩), .int .i64 t, .int .i64 m, .int .i64 (min m 5), .int .i64 (t + min m 5), .int .i64 T, .int .i64 T] ix).getD undef) (fun _ _ _ => True) (by kernel_rfl) (by kernel_rfl) (by kernel_rfl) (fun _ _ _ _ _ _ => trivial) fun x => ?_
    refine VE_call (v := .agg #[.int .i64 0, .int .i64 5]) (f := 35) (args := #[]) rfl rfl rfl (fun u => r_call pf35 (by simp) rfl) (fun u hu hf => ?_) ?_
    · refine (bucket_any u).mono ?_
      rintro _ u' ⟨rfl, hb⟩
      exact ⟨rfl, hx hu hb⟩
    refine VE_ex (v := .pointer (some ⟨w.heap.size, 0 + 20, none⟩)) rfl rfl rfl (fun u hu hf => r_fieldAddr (rho_base rfl rfl) fld28_6) ?_
    refine VE_ex (v := .int .i64 t) rfl rfl rfl (fun u hu hf => r_load (rho_env rfl) on3 (hu.cell hc6)) ?_
    refine VE_ex (v := .int .i64 m) rfl rfl rfl (fun u hu hf => r_move (rho_base rfl rfl)) ?_
    refine VE_ex (v := .int .i64 (min m 5)) rfl rfl rfl (fun u hu hf => r_min (rho_env rfl) rho_const rfl) ?_
    refine VE_ex (v := .int .i64 (t + min m 5)) rfl rfl rfl (fun u hu hf => r_addI (rho_env rfl) (rho_env rfl) ⟨rfl, by omega⟩) ?_
    refine VE_call (v := .int .i64 T) (f := 36) (args := #[.agg #[.int .i64 0, .int .i64 5], .int .i64 (t + min m 5)]) rfl rfl rfl (fun u => r_call pf36 (map2 (rho_env rfl) (rho_env rfl)) rfl) (fun u hu hf => ?_) ?_
    · refine (into_any _ u).mono ?_
      rintro _ u' ⟨rfl, hb⟩
      exact ⟨by rw [HT.out], hx hu hb⟩
    refine VE_ex (v := .int .i64 T) rfl rfl rfl (fun u hu hf => r_assign (rho_env rfl)) ?_
    refine VE_nil fun u hu hf => ?_
    rw [withEnv_norm (rfl : setsL _ 0 _ = [_, _, _, _, _, _, _, _, _, _, _, _, _, _, _, _, _, _, _, _, _, _, _, _, _, _, _, _, _, _, _, _, _, _, _, _, _])]
    have hb2 := hbw.trans (hu.below.mono hbw.size)
    have hc7' := hu.cell hc7
    clear hf hc6 hc7 hbw hR hx hu
    by_cases hT5 : T = 5
    · subst hT5
      have H1 : Hid (X1 = 5) := Lib.hid (by rw [HX1.out]; rfl)
      have H2 : Hid (X2 = now) := Lib.hid (by rw [HX2.out]; rfl)
      go_wp2
      go_ret2
      exact ⟨by rw [H1.out, H2.out]; rfl, hb2⟩
    · have h5 : (T == 5) = false := by simpa using hT5
      have H1 : Hid (X1 = T) := Lib.hid (by rw [HX1.out, if_neg hT5])
      have H2 : Hid (X2 = a + m * 10) := Lib.hid (by rw [HX2.out, if_neg hT5])
      clear hT5
      go_wp2
      refine wp_region_VE (bt := 5) (fun _ => true) (fun ix => (lookL [.int .i64 T, .pointer (some ⟨w.heap.size, 0 + 21, none⟩), .int .i64 a, .int .i64 m, .int .i64 (m * 10), .int .i64 (a + m * 10), .int .i64 T, .int .i64 (a + m * 10)] ix).getD undef) (fun _ _ _ => True) (by kernel_rfl) (by kernel_rfl) (by kernel_rfl) (fun _ _ _ _ _ _ => trivial) fun x => ?_
      refine VE_ex (v := .int .i64 T) rfl rfl rfl (fun u hu hf => r_move (rho_base rfl rfl)) ?_
      refine VE_ex (v := .pointer (some ⟨w.heap.size, 0 + 21, none⟩)) rfl rfl rfl (fun u hu hf => r_fieldAddr (rho_base rfl rfl) fld28_7) ?_
      refine VE_ex (v := .int .i64 a) rfl rfl rfl (fun u hu hf => r_load (rho_env rfl) on3 (hu.cell hc7')) ?_
      refine VE_ex (v := .int .i64 m) rfl rfl rfl (fun u hu hf => r_move (rho_base rfl rfl)) ?_
      refine VE_ex (v := .int .i64 (m * 10)) rfl rfl rfl (fun u hu hf => r_mulI (rho_env rfl) rho_const ⟨rfl, by omega⟩) ?_
      refine VE_ex (v := .int .i64 (a + m * 10)) rfl rfl rfl (fun u hu hf => r_addI (rho_env rfl) (rho_env rfl) ⟨rfl, by omega⟩) ?_
      refine VE_ex (v := .int .i64 T) rfl rfl rfl (fun u hu hf => r_assign (rho_env rfl)) ?_
      refine VE_ex (v := .int .i64 (a + m * 10)) rfl rfl rfl (fun u hu hf => r_assign (rho_env rfl)) ?_
      refine VE_nil fun u hu hf => ?_
      rw [withEnv_norm (rfl : setsL _ 0 _ = [_, _, _, _, _, _, _, _, _, _, _, _, _, _, _, _, _, _, _, _, _, _, _, _, _, _, _, _, _, _, _, _, _, _, _, _, _])]
      have hb3 := hb2.trans (hu.below.mono hb2.size)
      clear hf
      go_wp2
      go_ret2
      exact ⟨by rw [H1.out, H2.out]; rfl, hb3⟩
end Go.Proofs.Ythpjihiikkhcjaa
