/-
  A part of the proofs of this seat: laws of the walk, or contracts of the functions that the statements reach. No conditions but those that each theorem names.
-/
import Derived.Test.YthpjihiikkhcjaaGh
import Derived.Test.YthpjihiikkhcjaaGe
namespace Go.Sp
open Go.RowKit
theorem stop_at {P : Program} {ops : Array Oper} {Q : Exit → Act → World → Prop} {rest : List Oper} (n : Nat) {op : Op} {ty : TypeId} {p : String} {af : Array Edge} {g : Option (Nat × Bool)} {a : Act} {w : World} (h : Stop (wpList P ops Q (⟨some n, op, ty, p, af, g⟩ :: rest) a w)) : wpList P ops Q (⟨some n, op, ty, p, af, g⟩ :: rest) a w := h.out
theorem stop_st {P : Program} {ops : Array Oper} {Q : Exit → Act → World → Prop} {rest : List Oper} (n m : Nat) {t ty : TypeId} {p : String} {af : Array Edge} {g : Option (Nat × Bool)} {a : Act} {w : World} (h : Stop (wpList P ops Q (⟨none, .store t (.tmp n) (.tmp m), ty, p, af, g⟩ :: rest) a w)) : wpList P ops Q (⟨none, .store t (.tmp n) (.tmp m), ty, p, af, g⟩ :: rest) a w := h.out
def recsM (p : Int) (nm : ByteArray) (t a v : Int) (p' : Int) (nm' : ByteArray) (t' a' v' : Int) : Bool := p == p' && nm.toList == nm'.toList && t == t' && a == a' && v == v'
end Go.Sp
namespace Go.Proofs.Ythpjihiikkhcjaa
open Go.RowKit Go.Sp
set_option maxRecDepth 100000 in
set_option maxHeartbeats 4000000 in
theorem records_any (p : Int) (nm : ByteArray) (t a v p' : Int) (nm' : ByteArray) (t' a' v' : Int) (w : World) :
    Calls Try.prog 29 #[.agg (recV p nm t a v), .agg (recV p' nm' t' a' v')] w fun e w' => e = .returned (.bool (recsM p nm t a v p' nm' t' a' v')) ∧ Below w.heap.size w w' := by
  have hb : Below w.heap.size w ((w.alloc (.cells (recV p nm t a v) 28)).alloc (.cells (recV p' nm' t' a' v') 28)) := ((Below.refl _ _).alloc (Nat.le_refl _) _).alloc (by simp) _
  have hT : Blk ((w.alloc (.cells (recV p nm t a v) 28)).alloc (.cells (recV p' nm' t' a' v') 28)) w.heap.size (recV p nm t a v) 28 := (Blk.new w _ 28).alloc _
  have hR : Blk ((w.alloc (.cells (recV p nm t a v) 28)).alloc (.cells (recV p' nm' t' a' v') 28)) (w.heap.size + 1) (recV p' nm' t' a' v') 28 := Blk.newAt (by simp) _ 28
  obtain ⟨w1, hw1⟩ : ∃ u, u = ((w.alloc (.cells (recV p nm t a v) 28)).alloc (.cells (recV p' nm' t' a' v') 28)) := ⟨_, rfl⟩
  rw [← hw1] at hb hT hR
  have hwl : (w.alloc (.cells #[.int .i64 p, .string nm, .slice none 0 0, .int .u32 0, .int .u32 0, .int .u32 0, .int .u32 0, .int .u32 0, .int .u32 0, .int .u32 0, .int .u32 0, .int .u32 0, .int .u32 0, .int .u32 0, .int .u32 0, .int .u32 0, .int .u32 0, .int .u32 0, .int .u32 0, .slice none 0 0, .int .i64 t, .int .i64 a, .int .i64 v] 28)).alloc (.cells #[.int .i64 p', .string nm', .slice none 0 0, .int .u32 0, .int .u32 0, .int .u32 0, .int .u32 0, .int .u32 0, .int .u32 0, .int .u32 0, .int .u32 0, .int .u32 0, .int .u32 0, .int .u32 0, .int .u32 0, .int .u32 0, .int .u32 0, .int .u32 0, .int .u32 0, .slice none 0 0, .int .i64 t', .int .i64 a', .int .i64 v'] 28) = w1 := hw1.symm
  have HWL := Lib.hid hwl
  clear hw1 hwl
  have l0 : w1.cell? ⟨w.heap.size, 0, none⟩ = some (.int .i64 p) := by rw [hT.cell]; rfl
  have l1 : w1.cell? ⟨w.heap.size, 1, none⟩ = some (.string nm) := by rw [hT.cell]; rfl
  have l2 : w1.cell? ⟨w.heap.size, 2, none⟩ = some (.slice none 0 0) := by rw [hT.cell]; rfl
  have l3 : w1.cell? ⟨w.heap.size, 3, none⟩ = some (.int .u32 0) := by rw [hT.cell]; rfl
  have l4 : w1.cell? ⟨w.heap.size, 4, none⟩ = some (.int .u32 0) := by rw [hT.cell]; rfl
  have l5 : w1.cell? ⟨w.heap.size, 5, none⟩ = some (.int .u32 0) := by rw [hT.cell]; rfl
  have l6 : w1.cell? ⟨w.heap.size, 6, none⟩ = some (.int .u32 0) := by rw [hT.cell]; rfl
  have l7 : w1.cell? ⟨w.heap.size, 7, none⟩ = some (.int .u32 0) := by rw [hT.cell]; rfl
  have l8 : w1.cell? ⟨w.heap.size, 8, none⟩ = some (.int .u32 0) := by rw [hT.cell]; rfl
  have l9 : w1.cell? ⟨w.heap.size, 9, none⟩ = some (.int .u32 0) := by rw [hT.cell]; rfl
  have l10 : w1.cell? ⟨w.heap.size, 10, none⟩ = some (.int .u32 0) := by rw [hT.cell]; rfl
  have l11 : w1.cell? ⟨w.heap.size, 11, none⟩ = some (.int .u32 0) := by rw [hT.cell]; rfl
  have l12 : w1.cell? ⟨w.heap.size, 12, none⟩ = some (.int .u32 0) := by rw [hT.cell]; rfl
  have l13 : w1.cell? ⟨w.heap.size, 13, none⟩ = some (.int .u32 0) := by rw [hT.cell]; rfl
  have l14 : w1.cell? ⟨w.heap.size, 14, none⟩ = some (.int .u32 0) := by rw [hT.cell]; rfl
  have l15 : w1.cell? ⟨w.heap.size, 15, none⟩ = some (.int .u32 0) := by rw [hT.cell]; rfl
  have l16 : w1.cell? ⟨w.heap.size, 16, none⟩ = some (.int .u32 0) := by rw [hT.cell]; rfl
  have l17 : w1.cell? ⟨w.heap.size, 17, none⟩ = some (.int .u32 0) := by rw [hT.cell]; rfl
  have l18 : w1.cell? ⟨w.heap.size, 18, none⟩ = some (.int .u32 0) := by rw [hT.cell]; rfl
  have l19 : w1.cell? ⟨w.heap.size, 19, none⟩ = some (.slice none 0 0) := by rw [hT.cell]; rfl
  have l20 : w1.cell? ⟨w.heap.size, 20, none⟩ = some (.int .i64 t) := by rw [hT.cell]; rfl
  have l21 : w1.cell? ⟨w.heap.size, 21, none⟩ = some (.int .i64 a) := by rw [hT.cell]; rfl
  have l22 : w1.cell? ⟨w.heap.size, 22, none⟩ = some (.int .i64 v) := by rw [hT.cell]; rfl
  have r0 : w1.cell? ⟨w.heap.size + 1, 0, none⟩ = some (.int .i64 p') := by rw [hR.cell]; rfl
  have r1 : w1.cell? ⟨w.heap.size + 1, 1, none⟩ = some (.string nm') := by rw [hR.cell]; rfl
  have r2 : w1.cell? ⟨w.heap.size + 1, 2, none⟩ = some (.slice none 0 0) := by rw [hR.cell]; rfl
  have r3 : w1.cell? ⟨w.heap.size + 1, 3, none⟩ = some (.int .u32 0) := by rw [hR.cell]; rfl
  have r4 : w1.cell? ⟨w.heap.size + 1, 4, none⟩ = some (.int .u32 0) := by rw [hR.cell]; rfl
  have r5 : w1.cell? ⟨w.heap.size + 1, 5, none⟩ = some (.int .u32 0) := by rw [hR.cell]; rfl
  have r6 : w1.cell? ⟨w.heap.size + 1, 6, none⟩ = some (.int .u32 0) := by rw [hR.cell]; rfl
  have r7 : w1.cell? ⟨w.heap.size + 1, 7, none⟩ = some (.int .u32 0) := by rw [hR.cell]; rfl
  have r8 : w1.cell? ⟨w.heap.size + 1, 8, none⟩ = some (.int .u32 0) := by rw [hR.cell]; rfl
  have r9 : w1.cell? ⟨w.heap.size + 1, 9, none⟩ = some (.int .u32 0) := by rw [hR.cell]; rfl
  have r10 : w1.cell? ⟨w.heap.size + 1, 10, none⟩ = some (.int .u32 0) := by rw [hR.cell]; rfl
  have r11 : w1.cell? ⟨w.heap.size + 1, 11, none⟩ = some (.int .u32 0) := by rw [hR.cell]; rfl
  have r12 : w1.cell? ⟨w.heap.size + 1, 12, none⟩ = some (.int .u32 0) := by rw [hR.cell]; rfl
  have r13 : w1.cell? ⟨w.heap.size + 1, 13, none⟩ = some (.int .u32 0) := by rw [hR.cell]; rfl
  have r14 : w1.cell? ⟨w.heap.size + 1, 14, none⟩ = some (.int .u32 0) := by rw [hR.cell]; rfl
  have r15 : w1.cell? ⟨w.heap.size + 1, 15, none⟩ = some (.int .u32 0) := by rw [hR.cell]; rfl
  have r16 : w1.cell? ⟨w.heap.size + 1, 16, none⟩ = some (.int .u32 0) := by rw [hR.cell]; rfl
  have r17 : w1.cell? ⟨w.heap.size + 1, 17, none⟩ = some (.int .u32 0) := by rw [hR.cell]; rfl
  have r18 : w1.cell? ⟨w.heap.size + 1, 18, none⟩ = some (.int .u32 0) := by rw [hR.cell]; rfl
  have r19 : w1.cell? ⟨w.heap.size + 1, 19, none⟩ = some (.slice none 0 0) := by rw [hR.cell]; rfl
  have r20 : w1.cell? ⟨w.heap.size + 1, 20, none⟩ = some (.int .i64 t') := by rw [hR.cell]; rfl
  have r21 : w1.cell? ⟨w.heap.size + 1, 21, none⟩ = some (.int .i64 a') := by rw [hR.cell]; rfl
  have r22 : w1.cell? ⟨w.heap.size + 1, 22, none⟩ = some (.int .i64 v') := by rw [hR.cell]; rfl
  have hcv : (convert 23 9 (.slice none 0 0)).run Try.prog w1 = .ok (.string ⟨#[]⟩) w1 := Byt.str (Or.inl ⟨rfl, rfl⟩) Try.underlying23 Try.underlying5 Try.underlying9
  have hqv : (Op.equalIn 10000 26 (.agg #[.int .u32 0, .int .u32 0, .int .u32 0, .int .u32 0, .int .u32 0, .int .u32 0, .int .u32 0, .int .u32 0]) (.agg #[.int .u32 0, .int .u32 0, .int .u32 0, .int .u32 0, .int .u32 0, .int .u32 0, .int .u32 0, .int .u32 0])).run Try.prog w1 = .ok true w1 := by kernel_rfl
  obtain ⟨L, hL⟩ : ∃ L, L = recsM p nm t a v p' nm' t' a' v' := ⟨_, rfl⟩
  rw [← hL]
  have HL := Lib.hid hL
  clear hL
  show Calls Try.prog 29 #[.agg #[_, _, _, _, _, _, _, _, _, _, _, _, _, _, _, _, _, _, _, _, _, _, _], .agg #[_, _, _, _, _, _, _, _, _, _, _, _, _, _, _, _, _, _, _, _, _, _, _]] w _
  go_enter Try.func29, Try.ntmps29
  simp only [List.append_eq, List.cons_append, List.nil_append]
  go_wp2_with (with_reducible refine stop_at 5 ?_)
  rw [HWL.out]
  refine Stop.go ?_
  clear HWL hT hR
  go_wp2
  all_goals
    go_ret
    refine ⟨congrArg (fun b => Ending.returned (Value.bool b)) ?_, hb⟩
    rw [HL.out]
    simp [recsM, *]
end Go.Proofs.Ythpjihiikkhcjaa
namespace Go.Proofs.Ythpjihiikkhcjaa
open Go.RowKit Go.Sp
set_option maxRecDepth 100000 in
set_option maxHeartbeats 2000000 in
theorem rtokens_any (p : Int) (nm : ByteArray) (t a v now : Int) (w : World) (ht : 0 ≤ t ∧ t ≤ 5) (ha : 0 ≤ a ∧ a ≤ 1000000000000) (hn : -9223372036854775808 ≤ now ∧ now ≤ 9223372036854775807) :
    Calls Try.prog 31 #[.agg (recV p nm t a v), .int .i64 now] w fun e w' => e = .returned (.tuple #[.int .i64 (tokM t a now).1, .int .i64 (tokM t a now).2]) ∧ Below w.heap.size w w' := by
  have hR : Blk (w.alloc (.cells (recV p nm t a v) 28)) w.heap.size (recV p nm t a v) 28 := Blk.new w _ 28
  have hbw : Below w.heap.size w (w.alloc (.cells (recV p nm t a v) 28)) := (Below.refl _ _).alloc (Nat.le_refl _) _
  have hrv : recV p nm t a v = #[.int .i64 p, .string nm, .slice none 0 0, .int .u32 0, .int .u32 0, .int .u32 0, .int .u32 0, .int .u32 0, .int .u32 0, .int .u32 0, .int .u32 0, .int .u32 0, .int .u32 0, .int .u32 0, .int .u32 0, .int .u32 0, .int .u32 0, .int .u32 0, .int .u32 0, .slice none 0 0, .int .i64 t, .int .i64 a, .int .i64 v] := rfl
  by_cases h : now ≤ a
  · have e : tokM t a now = (t, a) := by unfold tokM; rw [if_pos h]
    rw [e]
    clear e
    rw [hrv]
    go_enter Try.func31, Try.ntmps31
    go_wp2
    rw [← hrv]
    generalize w.alloc (.cells (recV p nm t a v) 28) = w1 at *
    have hc6 : w1.cell? ⟨w.heap.size, 0 + 20, none⟩ = some (.int .i64 t) := by rw [hR.cell]; rfl
    have hc7 : w1.cell? ⟨w.heap.size, 0 + 21, none⟩ = some (.int .i64 a) := by rw [hR.cell]; rfl
    refine wp_region_VE (bt := 5) (fun _ => true) (fun ix => (lookL [.pointer (some ⟨w.heap.size, 0 + 20, none⟩), .int .i64 t, .pointer (some ⟨w.heap.size, 0 + 21, none⟩), .int .i64 a, .int .i64 t, .int .i64 a] ix).getD undef) (fun _ _ _ => True) (by kernel_rfl) (by kernel_rfl) (by kernel_rfl) (fun _ _ _ _ _ _ => trivial) fun x => ?_
    refine VE_ex (v := .pointer (some ⟨w.heap.size, 0 + 20, none⟩)) rfl rfl rfl (fun u hu hf => r_fieldAddr (rho_base rfl rfl) fld28_6) ?_
    refine VE_ex (v := .int .i64 t) rfl rfl rfl (fun u hu hf => r_load (rho_env rfl) on3 (hu.cell hc6)) ?_
    refine VE_ex (v := .pointer (some ⟨w.heap.size, 0 + 21, none⟩)) rfl rfl rfl (fun u hu hf => r_fieldAddr (rho_base rfl rfl) fld28_7) ?_
    refine VE_ex (v := .int .i64 a) rfl rfl rfl (fun u hu hf => r_load (rho_env rfl) on3 (hu.cell hc7)) ?_
    refine VE_ex (v := .int .i64 t) rfl rfl rfl (fun u hu hf => r_assign (rho_env rfl)) ?_
    refine VE_ex (v := .int .i64 a) rfl rfl rfl (fun u hu hf => r_assign (rho_env rfl)) ?_
    refine VE_nil fun u hu hf => ?_
    rw [withEnv_norm (rfl : setsL _ 0 _ = [_, _, _, _, _, _, _, _, _, _, _, _, _, _, _, _, _, _, _, _, _, _, _, _, _, _, _, _, _, _, _, _, _, _, _])]
    have hb2 := hbw.trans (hu.below.mono hbw.size)
    clear hf
    go_wp2
    go_ret2
    exact ⟨rfl, hb2⟩
  · obtain ⟨m, hm⟩ : ∃ m : Int, m = (now - a) / 10 := ⟨_, rfl⟩
    have hm0 : 0 ≤ m := by omega
    have hm1 : m * 10 ≤ now - a := by omega
    have e : tokM t a now = if 5 - t ≤ m then (5, now) else (t + m, a + m * 10) := by
      unfold tokM
      rw [if_neg h, ← hm]
      by_cases c : 5 - t ≤ m
      · rw [if_pos c, if_pos (by omega)]
      · rw [if_neg c, if_neg (by omega), show max 0 (min (t + min m 5) 5) = t + m by omega]
    obtain ⟨X1, hX1⟩ : ∃ x, x = (tokM t a now).1 := ⟨_, rfl⟩
    obtain ⟨X2, hX2⟩ : ∃ x, x = (tokM t a now).2 := ⟨_, rfl⟩
    rw [← hX1, ← hX2]
    rw [e] at hX1 hX2
    have HX1 := Lib.hid hX1
    have HX2 := Lib.hid hX2
    clear hX1 hX2
    have HM := Lib.hid hm
    clear e hm
    rw [hrv]
    have h' : a < now := by omega
    clear h
    go_enter Try.func31, Try.ntmps31
    go_wp2_with (refine (show wpList _ _ _ (⟨some 18, _, _, _, _, _⟩ :: _) _ _ from stop_here ?_))
    refine Stop.go (wpList_val rfl (r_subI rfl rfl ⟨rfl, by omega, by omega⟩) ?_)
    go_wp2_with (refine (show wpList _ _ _ (⟨some 19, _, _, _, _, _⟩ :: _) _ _ from stop_here ?_))
    refine Stop.go (wpList_val rfl (r_quoI rfl rfl ⟨by omega, by omega⟩ (by decide) HM.out.symm) ?_)
    obtain ⟨d, hd⟩ : ∃ d, d = 5 - t := ⟨_, rfl⟩
    go_wp2_with (refine (show wpList _ _ _ (⟨some 23, _, _, _, _, _⟩ :: _) _ _ from stop_here ?_))
    refine Stop.go (wpList_val rfl (r_subI (c := d) rfl rfl ⟨hd.symm, by omega, by omega⟩) ?_)
    have HD := Lib.hid hd
    clear hd
    by_cases c : d ≤ m
    · have H1 : Hid (X1 = 5) := Lib.hid (by rw [HX1.out, if_pos (by have := HD.out; omega)])
      have H2 : Hid (X2 = now) := Lib.hid (by rw [HX2.out, if_pos (by have := HD.out; omega)])
      rw [← hrv]
      generalize w.alloc (.cells (recV p nm t a v) 28) = w1 at *
      go_wp2
      go_ret2
      exact ⟨by rw [H1.out, H2.out]; rfl, hbw⟩
    · have H1 : Hid (X1 = t + m) := Lib.hid (by rw [HX1.out, if_neg (by have := HD.out; omega)])
      have H2 : Hid (X2 = a + m * 10) := Lib.hid (by rw [HX2.out, if_neg (by have := HD.out; omega)])
      have hm5 : m ≤ 5 := by have := HD.out; omega
      rw [← hrv]
      generalize w.alloc (.cells (recV p nm t a v) 28) = w1 at *
      go_wp2
      have hc6 : w1.cell? ⟨w.heap.size, 0 + 20, none⟩ = some (.int .i64 t) := by rw [hR.cell]; rfl
      have hc7 : w1.cell? ⟨w.heap.size, 0 + 21, none⟩ = some (.int .i64 a) := by rw [hR.cell]; rfl
      refine wp_region_VE (bt := 5) (fun _ => true) (fun ix => (lookL [.pointer (some ⟨w.heap.size, 0 + 20, none⟩), .int .i64 t, .int .i64 m, .int .i64 (t + m), .pointer (some ⟨w.heap.size, 0 + 21, none⟩), .int .i64 a, .int .i64 m, .int .i64 (m * 10), .int .i64 (a + m * 10), .int .i64 (t + m), .int .i64 (a + m * 10)] ix).getD undef) (fun _ _ _ => True) (by kernel_rfl) (by kernel_rfl) (by kernel_rfl) (fun _ _ _ _ _ _ => trivial) fun x => ?_
      refine VE_ex (v := .pointer (some ⟨w.heap.size, 0 + 20, none⟩)) rfl rfl rfl (fun u hu hf => r_fieldAddr (rho_base rfl rfl) fld28_6) ?_
      refine VE_ex (v := .int .i64 t) rfl rfl rfl (fun u hu hf => r_load (rho_env rfl) on3 (hu.cell hc6)) ?_
      refine VE_ex (v := .int .i64 m) rfl rfl rfl (fun u hu hf => r_move (rho_base rfl rfl)) ?_
      refine VE_ex (v := .int .i64 (t + m)) rfl rfl rfl (fun u hu hf => r_addI (rho_env rfl) (rho_env rfl) ⟨rfl, by omega⟩) ?_
      refine VE_ex (v := .pointer (some ⟨w.heap.size, 0 + 21, none⟩)) rfl rfl rfl (fun u hu hf => r_fieldAddr (rho_base rfl rfl) fld28_7) ?_
      refine VE_ex (v := .int .i64 a) rfl rfl rfl (fun u hu hf => r_load (rho_env rfl) on3 (hu.cell hc7)) ?_
      refine VE_ex (v := .int .i64 m) rfl rfl rfl (fun u hu hf => r_move (rho_base rfl rfl)) ?_
      refine VE_ex (v := .int .i64 (m * 10)) rfl rfl rfl (fun u hu hf => r_mulI (rho_env rfl) rho_const ⟨rfl, by omega⟩) ?_
      refine VE_ex (v := .int .i64 (a + m * 10)) rfl rfl rfl (fun u hu hf => r_addI (rho_env rfl) (rho_env rfl) ⟨rfl, by omega⟩) ?_
      refine VE_ex (v := .int .i64 (t + m)) rfl rfl rfl (fun u hu hf => r_assign (rho_env rfl)) ?_
      refine VE_ex (v := .int .i64 (a + m * 10)) rfl rfl rfl (fun u hu hf => r_assign (rho_env rfl)) ?_
      refine VE_nil fun u hu hf => ?_
      rw [withEnv_norm (rfl : setsL _ 0 _ = [_, _, _, _, _, _, _, _, _, _, _, _, _, _, _, _, _, _, _, _, _, _, _, _, _, _, _, _, _, _, _, _, _, _, _])]
      have hb3 := hbw.trans (hu.below.mono hbw.size)
      clear hf
      go_wp2
      go_ret2
      exact ⟨by rw [H1.out, H2.out]; rfl, hb3⟩
set_option maxRecDepth 100000 in
set_option maxHeartbeats 2000000 in
theorem rcharge_any (p : Int) (nm : ByteArray) (t a v now : Int) (w : World) (ht : 0 ≤ t ∧ t ≤ 5) (ha : 0 ≤ a ∧ a ≤ 1000000000000) (hn : -9223372036854775808 ≤ now ∧ now ≤ 9223372036854775807) :
    Calls Try.prog 32 #[.agg (recV p nm t a v), .int .i64 now] w fun e w' => e = .returned (.tuple #[.agg (chM p nm t a v now).1, .bool (chM p nm t a v now).2]) ∧ Below w.heap.size w w' := by
  have hrv : recV p nm t a v = #[.int .i64 p, .string nm, .slice none 0 0, .int .u32 0, .int .u32 0, .int .u32 0, .int .u32 0, .int .u32 0, .int .u32 0, .int .u32 0, .int .u32 0, .int .u32 0, .int .u32 0, .int .u32 0, .int .u32 0, .int .u32 0, .int .u32 0, .int .u32 0, .int .u32 0, .slice none 0 0, .int .i64 t, .int .i64 a, .int .i64 v] := rfl
  have hrz : recV 0 ⟨#[]⟩ 0 0 0 = #[.int .i64 0, .string ⟨#[]⟩, .slice none 0 0, .int .u32 0, .int .u32 0, .int .u32 0, .int .u32 0, .int .u32 0, .int .u32 0, .int .u32 0, .int .u32 0, .int .u32 0, .int .u32 0, .int .u32 0, .int .u32 0, .int .u32 0, .int .u32 0, .int .u32 0, .int .u32 0, .slice none 0 0, .int .i64 0, .int .i64 0, .int .i64 0] := rfl
  have hR2 : Blk ((w.alloc (.cells (recV p nm t a v) 28)).alloc (.cells (recV 0 ⟨#[]⟩ 0 0 0) 28)) w.heap.size (recV p nm t a v) 28 := (Blk.new w _ 28).alloc _
  have hR4 : Blk ((w.alloc (.cells (recV p nm t a v) 28)).alloc (.cells (recV 0 ⟨#[]⟩ 0 0 0) 28)) (w.heap.size + 1) (recV 0 ⟨#[]⟩ 0 0 0) 28 := Blk.newAt (by simp) _ 28
  have hbw : Below w.heap.size w ((w.alloc (.cells (recV p nm t a v) 28)).alloc (.cells (recV 0 ⟨#[]⟩ 0 0 0) 28)) := ((Below.refl _ _).alloc (Nat.le_refl _) _).alloc (by simp) _
  obtain ⟨w1, hw1⟩ : ∃ u, u = (w.alloc (.cells (recV p nm t a v) 28)).alloc (.cells (recV 0 ⟨#[]⟩ 0 0 0) 28) := ⟨_, rfl⟩
  rw [← hw1] at hR2 hR4 hbw
  rw [hrv, hrz] at hw1
  rw [hrv]
  have HW := Lib.hid hw1
  have HRV := Lib.hid hrv
  have HRZ := Lib.hid hrz
  clear hw1 hrv hrz
  obtain ⟨C, hC⟩ : ∃ C, C = chM p nm t a v now := ⟨_, rfl⟩
  rw [← hC]
  have HC := Lib.hid hC
  clear hC
  go_enter Try.func32, Try.ntmps32
  go_wp2_with (refine (show wpList _ _ _ (⟨some 9, .load 28 (.tmp 2), _, _, _, _⟩ :: _) _ _ from stop_here ?_))
  rw [← HW.out]
  clear HW
  refine Stop.go (wpList_val rfl (r_loadBlk rfl hR2 Try.underlying28 rfl (size28 _ _ _ _ _)) ?_)
  go_wp2_with fail
  refine (rtokens_any p nm t a v now _ ht ha hn).mono ?_
  rintro _ w2 ⟨rfl, hb2⟩
  have hR22 := hR2.ext hb2
  have hR42 := hR4.ext hb2
  have hbw2 := hbw.trans (hb2.mono hbw.size)
  have hl4 := hR42.lt
  have hkb := tokM_bounds t a now ht
  clear hb2 hR2 hR4 hbw
  obtain ⟨k, hk⟩ : ∃ k, k = (tokM t a now).1 := ⟨_, rfl⟩
  obtain ⟨at_, hat⟩ : ∃ k, k = (tokM t a now).2 := ⟨_, rfl⟩
  rw [← hk, ← hat]
  rw [← hk] at hkb
  have HKT := Lib.hid hk
  have HAT := Lib.hid hat
  clear hk hat
  by_cases hk1 : k = 0
  · have HC1 : Hid (C = (recV 0 ⟨#[]⟩ 0 0 0, false)) := Lib.hid (by rw [HC.out]; unfold chM; rw [← HKT.out, if_pos (by omega)])
    go_wp2_with (refine (show wpList _ _ _ (⟨none, .store 28 (.tmp 4) (.tmp 16), _, _, _, _⟩ :: _) _ _ from stop_here ?_))
    refine Stop.go (wpList_store_blk rfl rfl rfl rfl hR42 rfl (size28 _ _ _ _ _) (by simp [Value.oneCell']) ?_)
    intro wz hRz hOz
    have hbwz := hbw2.trans (hOz.below (by omega) hbw2.size)
    clear hOz
    go_wp2
    exact bodyPost_ret (results_row_tmp rfl _ _ (w.heap.size + 1) 28 _ (0, 0) _ rfl hRz Try.underlying28 rfl (size28 _ _ _ _ _)) rfl ⟨by rw [HC1.out]; rfl, hbwz⟩
  · have HC1 : Hid (C = (recV p nm (k - 1) at_ v, true)) := Lib.hid (by rw [HC.out]; unfold chM; rw [← HKT.out, ← HAT.out, if_neg (by omega)])
    have hkf : (k == 0) = false := by simpa using hk1
    rw [HRV.out] at hR22
    have hbc := hR22.cell
    have hbf := hR22.frozen
    go_wp2_with (refine (show wpList _ _ _ (⟨some 22, .load 28 (.tmp 2), _, _, _, _⟩ :: _) _ _ from stop_here ?_))
    rw [← HRV.out] at hR22
    have hR23 : Blk ((w2.setCell ⟨w.heap.size, 20, none⟩ (.int .i64 (k - 1))).setCell ⟨w.heap.size, 21, none⟩ (.int .i64 at_)) w.heap.size (recV p nm (k - 1) at_ v) 28 := (hR22.set 20 _).set 21 _
    have hR43 := (hR42.setOther ⟨w.heap.size, 20, none⟩ (.int .i64 (k - 1)) (by show w.heap.size + 1 ≠ w.heap.size; omega)).setOther ⟨w.heap.size, 21, none⟩ (.int .i64 at_) (by show w.heap.size + 1 ≠ w.heap.size; omega)
    have hbw3 := (hbw2.setCell (p := ⟨w.heap.size, 20, none⟩) (Nat.le_refl _) (.int .i64 (k - 1))).setCell (p := ⟨w.heap.size, 21, none⟩) (Nat.le_refl _) (.int .i64 at_)
    generalize (w2.setCell ⟨w.heap.size, 20, none⟩ (.int .i64 (k - 1))).setCell ⟨w.heap.size, 21, none⟩ (.int .i64 at_) = w3 at *
    clear hbc hbf hR22 hR42 hbw2
    refine Stop.go (wpList_val rfl (r_loadBlk rfl hR23 Try.underlying28 rfl (size28 _ _ _ _ _)) ?_)
    go_wp2_with (refine (show wpList _ _ _ (⟨none, .store 28 (.tmp 4) (.tmp 22), _, _, _, _⟩ :: _) _ _ from stop_here ?_))
    refine Stop.go (wpList_store_blk rfl rfl rfl rfl hR43 rfl (size28 _ _ _ _ _) (by simp [recV, Value.oneCell']) ?_)
    intro wz hRz hOz
    have hbwz := hbw3.trans (hOz.below (by omega) hbw3.size)
    clear hOz
    go_wp2
    exact bodyPost_ret (results_row_tmp rfl _ _ (w.heap.size + 1) 28 _ (0, 0) _ rfl hRz Try.underlying28 rfl (size28 _ _ _ _ _)) rfl ⟨by rw [HC1.out]; rfl, hbwz⟩
set_option maxRecDepth 100000 in
set_option maxHeartbeats 2000000 in
theorem rrefund_any (p : Int) (nm : ByteArray) (t a v now : Int) (w : World) (ht : 0 ≤ t ∧ t ≤ 5) (ha : 0 ≤ a ∧ a ≤ 1000000000000) (hn : -9223372036854775808 ≤ now ∧ now ≤ 9223372036854775807) :
    Calls Try.prog 34 #[.agg (recV p nm t a v), .int .i64 now] w fun e w' => e = .returned (.agg (rfM p nm t a v now)) ∧ Below w.heap.size w w' := by
  have hrv : recV p nm t a v = #[.int .i64 p, .string nm, .slice none 0 0, .int .u32 0, .int .u32 0, .int .u32 0, .int .u32 0, .int .u32 0, .int .u32 0, .int .u32 0, .int .u32 0, .int .u32 0, .int .u32 0, .int .u32 0, .int .u32 0, .int .u32 0, .int .u32 0, .int .u32 0, .int .u32 0, .slice none 0 0, .int .i64 t, .int .i64 a, .int .i64 v] := rfl
  have hrz : recV 0 ⟨#[]⟩ 0 0 0 = #[.int .i64 0, .string ⟨#[]⟩, .slice none 0 0, .int .u32 0, .int .u32 0, .int .u32 0, .int .u32 0, .int .u32 0, .int .u32 0, .int .u32 0, .int .u32 0, .int .u32 0, .int .u32 0, .int .u32 0, .int .u32 0, .int .u32 0, .int .u32 0, .int .u32 0, .int .u32 0, .slice none 0 0, .int .i64 0, .int .i64 0, .int .i64 0] := rfl
  have hR2 : Blk ((w.alloc (.cells (recV p nm t a v) 28)).alloc (.cells (recV 0 ⟨#[]⟩ 0 0 0) 28)) w.heap.size (recV p nm t a v) 28 := (Blk.new w _ 28).alloc _
  have hR4 : Blk ((w.alloc (.cells (recV p nm t a v) 28)).alloc (.cells (recV 0 ⟨#[]⟩ 0 0 0) 28)) (w.heap.size + 1) (recV 0 ⟨#[]⟩ 0 0 0) 28 := Blk.newAt (by simp) _ 28
  have hbw : Below w.heap.size w ((w.alloc (.cells (recV p nm t a v) 28)).alloc (.cells (recV 0 ⟨#[]⟩ 0 0 0) 28)) := ((Below.refl _ _).alloc (Nat.le_refl _) _).alloc (by simp) _
  obtain ⟨w1, hw1⟩ : ∃ u, u = (w.alloc (.cells (recV p nm t a v) 28)).alloc (.cells (recV 0 ⟨#[]⟩ 0 0 0) 28) := ⟨_, rfl⟩
  rw [← hw1] at hR2 hR4 hbw
  rw [hrv, hrz] at hw1
  rw [hrv]
  have HW := Lib.hid hw1
  have HRV := Lib.hid hrv
  have HRZ := Lib.hid hrz
  clear hw1 hrv hrz
  obtain ⟨C, hC⟩ : ∃ C, C = rfM p nm t a v now := ⟨_, rfl⟩
  rw [← hC]
  have HC := Lib.hid hC
  clear hC
  go_enter Try.func34, Try.ntmps34
  go_wp2_with (refine (show wpList _ _ _ (⟨some 8, .load 28 (.tmp 2), _, _, _, _⟩ :: _) _ _ from stop_here ?_))
  rw [← HW.out]
  clear HW
  refine Stop.go (wpList_val rfl (r_loadBlk rfl hR2 Try.underlying28 rfl (size28 _ _ _ _ _)) ?_)
  go_wp2_with fail
  refine (rtokens_any p nm t a v now _ ht ha hn).mono ?_
  rintro _ w2 ⟨rfl, hb2⟩
  have hR22 := hR2.ext hb2
  have hR42 := hR4.ext hb2
  have hbw2 := hbw.trans (hb2.mono hbw.size)
  have hl4 := hR42.lt
  have hkb := tokM_bounds t a now ht
  clear hb2 hR2 hR4 hbw
  obtain ⟨k, hk⟩ : ∃ k, k = (tokM t a now).1 := ⟨_, rfl⟩
  obtain ⟨at_, hat⟩ : ∃ k, k = (tokM t a now).2 := ⟨_, rfl⟩
  rw [← hk, ← hat]
  rw [← hk] at hkb
  have HKT := Lib.hid hk
  have HAT := Lib.hid hat
  clear hk hat
  have HC1 : Hid (C = recV p nm (min (k + 1) 5) at_ v) := Lib.hid (by rw [HC.out]; unfold rfM; rw [← HKT.out, ← HAT.out])
  obtain ⟨T, hT⟩ : ∃ T, T = min (k + 1) 5 := ⟨_, rfl⟩
  rw [← hT] at HC1
  go_wp2_with (refine (show wpList _ _ _ (⟨some 15, _, _, _, _, _⟩ :: _) _ _ from stop_here ?_))
  refine Stop.go (wpList_val rfl (r_min rfl rfl hT.symm) ?_)
  have HT := Lib.hid hT
  clear hT
  rw [HRV.out] at hR22
  have hbc := hR22.cell
  have hbf := hR22.frozen
  go_wp2_with (refine (show wpList _ _ _ (⟨some 19, .load 28 (.tmp 2), _, _, _, _⟩ :: _) _ _ from stop_here ?_))
  rw [← HRV.out] at hR22
  have hR23 : Blk ((w2.setCell ⟨w.heap.size, 20, none⟩ (.int .i64 T)).setCell ⟨w.heap.size, 21, none⟩ (.int .i64 at_)) w.heap.size (recV p nm T at_ v) 28 := (hR22.set 20 _).set 21 _
  have hR43 := (hR42.setOther ⟨w.heap.size, 20, none⟩ (.int .i64 T) (by show w.heap.size + 1 ≠ w.heap.size; omega)).setOther ⟨w.heap.size, 21, none⟩ (.int .i64 at_) (by show w.heap.size + 1 ≠ w.heap.size; omega)
  have hbw3 := (hbw2.setCell (p := ⟨w.heap.size, 20, none⟩) (Nat.le_refl _) (.int .i64 T)).setCell (p := ⟨w.heap.size, 21, none⟩) (Nat.le_refl _) (.int .i64 at_)
  generalize (w2.setCell ⟨w.heap.size, 20, none⟩ (.int .i64 T)).setCell ⟨w.heap.size, 21, none⟩ (.int .i64 at_) = w3 at *
  clear hbc hbf hR22 hR42 hbw2
  refine Stop.go (wpList_val rfl (r_loadBlk rfl hR23 Try.underlying28 rfl (size28 _ _ _ _ _)) ?_)
  go_wp2_with (refine (show wpList _ _ _ (⟨none, .store 28 (.tmp 4) (.tmp 19), _, _, _, _⟩ :: _) _ _ from stop_here ?_))
  refine Stop.go (wpList_store_blk rfl rfl rfl rfl hR43 rfl (size28 _ _ _ _ _) (by simp [recV, Value.oneCell']) ?_)
  intro wz hRz hOz
  have hbwz := hbw3.trans (hOz.below (by omega) hbw3.size)
  clear hOz
  go_wp2
  exact bodyPost_ret (results_cell_row rfl _ _ (w.heap.size + 1) 28 _ (0, 0) _ rfl hRz Try.underlying28 rfl (size28 _ _ _ _ _)) rfl ⟨by rw [HC1.out], hbwz⟩
end Go.Proofs.Ythpjihiikkhcjaa
namespace Go.Sp
open Go.RowKit
section
variable {P : Program} {ops : Array Oper} {R : World → World → Prop} {w : World} {V : Value → Nat → Value → World → Prop} {Q : Exit → Act → World → Prop} {a : Act}
theorem InvV.imp {V V' : Nat → Value → World → Prop} {listed : Array Bool} {x : Nat → Value} {a1 : Act} {w1 : World} (inv : InvV ops R w V a listed x a1 w1)
    (h : ∀ j, j < ops.size → listed.getD j false = true → V j (x j) w1 → V' j (x j) w1) : InvV ops R w V' a listed x a1 w1 :=
  ⟨inv.lsize, inv.reach, inv.down, inv.defers, inv.size, inv.done, inv.rest, fun j hj hl => h j hj hl (inv.facts j hj hl)⟩
/-- Those that read the ghost (dp) wait for it. -/
def okG (ops : Array Oper) (gi : Nat) (dp : Nat → Bool) : Bool :=
  !dp gi && (List.range ops.size).all fun j => !dp j || match ops[j]? with
    | some o => edgeOn o gi
    | none => true
theorem any_of_stepsG (gi : Nat) (dp : Nat → Bool) (ex : Nat → Bool) (c : Nat → Value) (hex : ∀ y j v u, ex j = true → V y j v u → v = c j) (hok : okV ops = true) (hokg : okG ops gi dp = true) (hrefl : ∀ a, R a a) (htrans : ∀ a b c, R a b → R b c → R a c)
    (hmono : ∀ y j v u u', R u u' → V y j v u → V y j v u') (hdp : ∀ y y' j v u, dp j = false → V y j v u → V y' j v u)
    (h : ∀ x : Nat → Value, (∀ j, ex j = true → x j = c j) → stepsV P ops R w (V (x gi)) x (fun a' w' => Q .normal a' w') ops.toList 0 a) :
    ∀ (fuel : Nat) (listed : Array Bool) (x : Nat → Value) (a1 : Act) (w1 : World), (∀ j, ex j = true → x j = c j) → InvV ops R w (V (x gi)) a listed x a1 w1 →
      (List.range ops.size).countP (fun i => !listed.getD i true) ≤ fuel → wpAny P .any ops Q fuel listed a1 w1 := by
  obtain ⟨hsel, hspec⟩ := okV_spec hok
  simp only [okG, Bool.and_eq_true, Bool.not_eq_true', List.all_eq_true, List.mem_range, Bool.or_eq_true] at hokg
  have key : ∀ (listed : Array Bool), listed.size = ops.size → Region.ready .any ops listed = [] → ∀ j, j < ops.size → listed.getD j false = true := by
    intro listed hs hr j
    induction j using Nat.strongRecOn with
    | _ j ih =>
      intro hj
      cases hc : listed.getD j false with
      | true => rfl
      | false =>
        have : j ∈ Region.ready .any ops listed := mem_ready.2 ⟨by rw [getD_tf hs hj]; exact hc, ops[j], by simp [hj], fun e he hb => by
          have hlt := (hspec j ops[j] (by simp [hj])).1 e he hb
          exact ih e.on hlt (by omega)⟩
        rw [hr] at this; cases this
  have fin : ∀ (listed : Array Bool) (x : Nat → Value) (a1 : Act) (w1 : World), (∀ j, ex j = true → x j = c j) → InvV ops R w (V (x gi)) a listed x a1 w1 → (∀ j, j < ops.size → listed.getD j false = true) → Q .normal a1 w1 := by
    intro listed x a1 w1 hx inv hall
    rw [inv.all hok hall]
    exact (stepsV_split _ _ _ (h x hx)).2 w1 inv.reach fun j hj => inv.facts j hj (hall j hj)
  intro fuel
  induction fuel with
  | zero =>
    intro listed x a1 w1 hx inv hc
    have hall : ∀ j, j < ops.size → listed.getD j false = true := fun j hj => by
      have h0 : (List.range ops.size).countP (fun i => !listed.getD i true) = 0 := by omega
      have := List.countP_eq_zero.1 h0 j (List.mem_range.2 hj)
      rw [← getD_tf inv.lsize hj]
      simpa using this
    refine ⟨?_, fin listed x a1 w1 hx inv hall⟩
    rw [List.eq_nil_iff_forall_not_mem]
    intro i hi
    have h1 := (mem_ready.1 hi).1
    obtain ⟨_, o, ho, _⟩ := mem_ready.1 hi
    have hio := (Array.getElem?_eq_some_iff.1 ho).1
    rw [getD_tf inv.lsize hio, hall i hio] at h1
    cases h1
  | succ fuel ih =>
    intro listed x a1 w1 hx inv hc
    have hx' : ∀ i v u, V (x gi) i v u → ∀ j, ex j = true → (fun j => if j = i then v else x j) j = c j := by
      intro i v u hv j hj
      by_cases e : j = i
      · subst e; simp only [if_true]; exact hex _ _ _ _ hj hv
      · simp only [if_neg e]; exact hx j hj
    refine ⟨fun hr => fin listed x a1 w1 hx inv (key listed inv.lsize hr), fun i hi => ?_⟩
    obtain ⟨hiu, o, ho, hall⟩ := mem_ready.1 hi
    have hio := (Array.getElem?_eq_some_iff.1 ho).1
    have hif : listed.getD i false = false := by rw [← getD_tf inv.lsize hio]; exact hiu
    have hsame := inv.same hok ho hif hall
    have hst := (stepsV_split _ _ _ (h x hx)).1 i o (by simpa using ho) w1 inv.reach (fun j hj hlt => by
      have hjs : j < ops.size := by omega
      obtain ⟨_, hm⟩ := List.mem_filter.1 hj
      cases hp : ops[j]? with
      | none => simp [hp] at hm
      | some p =>
        cases hd : p.dst with
        | none => simp [hp, hd] at hm
        | some d =>
          simp [hp, hd] at hm
          rcases ((hspec i o ho).2 j p d hp hd).2 hm with ⟨_, he⟩ | ⟨hle, _⟩
          · obtain ⟨e, he1, he2⟩ := Array.any_eq_true'.1 he
            simp only [Bool.and_eq_true, beq_iff_eq] at he2
            have hl := hall e he1 he2.1
            rw [he2.2] at hl
            exact inv.facts j hjs hl
          · omega)
    rw [← wanted_same hsame] at hst
    rw [execOp_congr (ρ := (putsV x (ops.toList.take i) 0 a).eval) (ρ' := a1.eval) o (Region.noSelect_spec hsel i o · · ho) (fun y hy => (eval_same hsame y hy).symm), Nat.zero_add] at hst
    have hcount : ∀ (l2 : Array Bool), l2 = listed.setIfInBounds i true → (List.range ops.size).countP (fun i => !l2.getD i true) ≤ fuel := by
      rintro l2 rfl
      have : (List.range ops.size).countP (fun j => !(listed.setIfInBounds i true).getD j true) < (List.range ops.size).countP (fun j => !listed.getD j true) := by
        refine countP_lt (i := i) (fun j _ hq => ?_) (List.mem_range.2 hio) (by simp only [hiu]; rfl) ?_
        · by_cases hj : j = i
          · subst hj; simp only [hiu]; rfl
          · rw [getD_set_ne true (Ne.symm hj)] at hq; exact hq
        · have : i < listed.size := by rw [inv.lsize]; exact hio
          simp [this]
      omega
    have hghost : ∀ (v : Value) (a2 : Act) (w2 : World), InvV ops R w (V (x gi)) a (listed.setIfInBounds i true) (fun j => if j = i then v else x j) a2 w2 → InvV ops R w (V ((fun j => if j = i then v else x j) gi)) a (listed.setIfInBounds i true) (fun j => if j = i then v else x j) a2 w2 := by
      intro v a2 w2 hi2
      by_cases hgi : gi = i
      · refine hi2.imp fun j hj hl hv => ?_
        cases hdj : dp j with
        | false => exact hdp _ _ _ _ _ hdj hv
        | true =>
          exfalso
          have hji : j ≠ i := fun e => by rw [e, ← hgi, hokg.1] at hdj; cases hdj
          rw [getD_set_ne false (Ne.symm hji)] at hl
          have hed := (hokg.2 j hj).resolve_left (by rw [hdj]; simp)
          have hoj : ops[j]? = some ops[j] := by simp [hj]
          rw [hoj] at hed
          obtain ⟨e, he1, he2⟩ := Array.any_eq_true'.1 hed
          simp only [Bool.and_eq_true, beq_iff_eq] at he2
          have := inv.down j ops[j] hoj hl e he1 he2.1
          rw [he2.2, hgi, hif] at this
          cases this
      · have : (fun j => if j = i then v else x j) gi = x gi := if_neg hgi
        rw [this]; exact hi2
    unfold wpOp
    simp only [ho]
    split
    · rename_i hw
      rw [if_pos hw] at hst
      refine .inl (wp_of_gives (hst.mono fun v w2 ⟨hR, hv⟩ => ?_))
      exact ih _ _ _ _ (hx' i v w2 hv) (hghost _ _ _ (inv.step hok htrans (hmono _) ho hif hall hR hv)) (hcount _ rfl)
    · rename_i hw
      rw [if_neg hw] at hst
      exact ih _ _ _ _ (hx' i undef w1 hst) (hghost _ _ _ (inv.step hok htrans (hmono _) ho hif hall (hrefl _) hst)) (hcount _ rfl)
theorem wp_region_KG {id : Nat} {l : List Oper} (gi : Nat) (dp : Nat → Bool) (V : Value → Nat → Value → World → Prop) (ex : Nat → Bool) (c : Nat → Value) (hex : ∀ y j v u, ex j = true → V y j v u → v = c j) (hm : P.follows .mixedOrders = true) (hok : okV l.toArray = true) (hokg : okG l.toArray gi dp = true) (hrefl : ∀ a, R a a) (htrans : ∀ a b c, R a b → R b c → R a c)
    (hdrew : R w w.drew) (hmono : ∀ y j v u u', R u u' → V y j v u → V y j v u') (hdp : ∀ y y' j v u, dp j = false → V y j v u → V y' j v u)
    (h : ∀ x : Nat → Value, (∀ j, ex j = true → x j = c j) → stepsV P l.toArray R w (V (x gi)) x (fun a' w' => Q .normal a' w') l 0 a) : (Code.region id l.toArray true).wp P Q a w := by
  refine wp_region_any hm (any_of_stepsG (R := R) (V := V) (w := w) (a := a) gi dp ex c hex hok hokg hrefl htrans hmono hdp (by simpa using h) _ _ c _ _ (fun _ _ => rfl) ?_ ?_)
  · refine ⟨by simp, hdrew, ?_, rfl, rfl, ?_, fun _ _ => rfl, ?_⟩
    · intro j o _ hl; simp [Array.getElem?_replicate] at hl
      split at hl <;> simp at hl
    · intro j o t _ _ hl; simp [Array.getElem?_replicate] at hl
      split at hl <;> simp at hl
    · intro j _ hl; simp [Array.getElem?_replicate] at hl
      split at hl <;> simp at hl
  · refine Nat.le_trans List.countP_le_length ?_
    simp
end
/-- As stepsVE, over any relation of worlds. -/
def stepsGE (P : Program) (ops : Array Oper) (R : World → World → Prop) (w : World) (ex : Nat → Bool) (c : Nat → Value) (V : Nat → Value → World → Prop) (x : Nat → Value) (a : Act) (fin : Act → World → Prop) : List Oper → Nat → Env → Prop
  | [], _, e => ∀ w1, R w w1 → (∀ j, j < ops.size → ex j = false → V j (x j) w1) → fin (withEnv a e) w1
  | o :: rest, i, e =>
    (∀ w1, R w w1 → (∀ j, feedB ops o j = true → j < i → ex j = false → V j (x j) w1) → if wantE ops a e o then Gives P (fun v w2 => R w1 w2 ∧ if ex i then v = c i else V i v w2) ((execOp (rhoE a e) o).run P w1) else (if ex i then undef = c i else V i undef w1)) ∧
    stepsGE P ops R w ex c V x a fin rest (i + 1) (pushE o.dst (if ex i then c i else x i) e)
section
variable {P : Program} {ops : Array Oper} {R : World → World → Prop} {w : World} {ex : Nat → Bool} {c : Nat → Value} {V : Nat → Value → World → Prop} {x : Nat → Value} {a : Act} {fin : Act → World → Prop}
theorem stepsGE_x {x' : Nat → Value} : ∀ {l : List Oper} {i : Nat} {e : Env}, stepsGE P ops R w (fun _ => true) c (fun _ _ _ => True) x a fin l i e → stepsGE P ops R w (fun _ => true) c (fun _ _ _ => True) x' a fin l i e
  | [], _, _, h => fun w1 h1 _ => h w1 h1 (fun _ _ h => by cases h)
  | o :: l, i, e, h => ⟨fun w1 h1 _ => h.1 w1 h1 (fun _ _ _ h => by cases h), stepsGE_x h.2⟩
theorem stepsV_of_GE (hx : ∀ j, ex j = true → x j = c j) : ∀ (l : List Oper) (i : Nat) (e : Env), (∀ p ∈ e, p.1 < a.tmps.size) → (l.all (fun o => match o.dst with | some d => decide (d < a.tmps.size) | none => true) = true) →
    stepsGE P ops R w ex c V x a fin l i e → stepsV P ops R w (fun i v u => if ex i then v = c i else V i v u) x fin l i (withEnv a e)
  | [], _, _, _, _, h => fun w1 h1 h2 => h w1 h1 fun j hj he => by simpa [he] using h2 j hj
  | o :: l, i, e, he, hl, h => by
    simp only [List.all_cons, Bool.and_eq_true] at hl
    obtain ⟨h2, h3⟩ := h
    have hput : ∀ v, (withEnv a e).put o.dst v = withEnv a (pushE o.dst v e) := fun v => by cases o.dst <;> rfl
    have hb : ∀ v, ∀ p ∈ pushE o.dst v e, p.1 < a.tmps.size := fun v => by
      cases hd : o.dst with
      | none => exact he
      | some d =>
        intro p hp
        simp only [pushE, List.mem_cons] at hp
        rcases hp with rfl | hp
        · have := hl.1; rw [hd] at this; simpa using this
        · exact he p hp
    have hxi : (if ex i then c i else x i) = x i := by
      by_cases hh : ex i = true
      · rw [if_pos hh, hx i hh]
      · rw [if_neg hh]
    rw [hxi] at h3
    refine ⟨fun w1 hw1 hf => ?_, ?_⟩
    · rw [wanted_E he, eval_withEnv a e he]
      refine h2 w1 hw1 fun j hj hlt hej => ?_
      have := hf j (by
        unfold feedB at hj
        refine List.mem_filter.2 ⟨List.mem_range.2 ?_, ?_⟩
        · cases hp : ops[j]? with
          | none => simp [hp] at hj
          | some p => exact (Array.getElem?_eq_some_iff.1 hp).1
        · cases hp : ops[j]? with
          | none => simp [hp] at hj
          | some p => cases hd : p.dst <;> simp_all) hlt
      simpa [hej] using this
    · rw [hput]
      exact stepsV_of_GE hx l _ _ (hb _) hl.2 h3
theorem wp_region_GE {Q : Exit → Act → World → Prop} {id : Nat} {l : List Oper} (gi : Nat) (dp : Nat → Bool) (ex : Nat → Bool) (c : Nat → Value) (R : World → World → Prop) (V : Value → Nat → Value → World → Prop) (hm : P.follows .mixedOrders = true) (hok : okV l.toArray = true) (hokg : okG l.toArray gi dp = true)
    (hsz : l.all (fun o => match o.dst with | some d => decide (d < a.tmps.size) | none => true) = true) (hrefl : ∀ a, R a a) (htrans : ∀ a b c, R a b → R b c → R a c) (hdrew : R w w.drew) (hmono : ∀ y j v u u', R u u' → V y j v u → V y j v u') (hdp : ∀ y y' j v u, dp j = false → V y j v u → V y' j v u)
    (h : ∀ x, stepsGE P l.toArray R w ex c (V (x gi)) x a (fun a' w' => Q .normal a' w') l 0 []) : (Code.region id l.toArray true).wp P Q a w :=
  wp_region_KG (R := R) gi dp (fun y i v u => if ex i then v = c i else V y i v u) ex c (fun y j v u hj hv => by simpa [hj] using hv) hm hok hokg hrefl htrans hdrew
    (fun y j v u u' hu hv => by
      by_cases hj : ex j = true
      · rw [if_pos hj] at *; exact hv
      · rw [if_neg hj] at *; exact hmono y j v u u' hu hv)
    (fun y y' j v u hd hv => by
      by_cases hj : ex j = true
      · rw [if_pos hj] at *; exact hv
      · rw [if_neg hj] at *; exact hdp y y' j v u hd hv)
    fun x hx => stepsV_of_GE (a := a) hx l 0 [] (fun _ h => by cases h) hsz (h x)
variable {rest : List Oper} {i d : Nat} {e : Env} {op : Op} {ty : TypeId} {pos : String} {aft : Array Edge} {gd : Option (Nat × Bool)}
theorem GE_ex {v : Value} (hr : ∀ a, R a a) (hx : ex i = true) (hc : c i = v) (hw : wantE ops a e ⟨some d, op, ty, pos, aft, gd⟩ = true)
    (h : ∀ w1, R w w1 → (∀ j, feedB ops ⟨some d, op, ty, pos, aft, gd⟩ j = true → j < i → ex j = false → V j (x j) w1) → (execOp (rhoE a e) ⟨some d, op, ty, pos, aft, gd⟩).run P w1 = .ok (.value v) w1)
    (k : stepsGE P ops R w ex c V x a fin rest (i + 1) ((d, v) :: e)) : stepsGE P ops R w ex c V x a fin (⟨some d, op, ty, pos, aft, gd⟩ :: rest) i e := by
  subst hc
  refine ⟨fun w1 h1 h2 => ?_, by simpa [hx, pushE] using k⟩
  rw [if_pos hw]
  rw [h w1 h1 h2]
  exact ⟨hr _, by simp [hx]⟩
theorem GE_exw {v : Value} (hx : ex i = true) (hc : c i = v) (hw : wantE ops a e ⟨some d, op, ty, pos, aft, gd⟩ = true)
    (h : ∀ w1, R w w1 → (∀ j, feedB ops ⟨some d, op, ty, pos, aft, gd⟩ j = true → j < i → ex j = false → V j (x j) w1) → ∃ w2, (execOp (rhoE a e) ⟨some d, op, ty, pos, aft, gd⟩).run P w1 = .ok (.value v) w2 ∧ R w1 w2)
    (k : stepsGE P ops R w ex c V x a fin rest (i + 1) ((d, v) :: e)) : stepsGE P ops R w ex c V x a fin (⟨some d, op, ty, pos, aft, gd⟩ :: rest) i e := by
  subst hc
  refine ⟨fun w1 h1 h2 => ?_, by simpa [hx, pushE] using k⟩
  rw [if_pos hw]
  obtain ⟨w2, hr, hR⟩ := h w1 h1 h2
  rw [hr]
  exact ⟨hR, by simp [hx]⟩
theorem GE_call {v : Value} {f : FuncId} {args : Array Value} (hx : ex i = true) (hc : c i = v) (hw : wantE ops a e ⟨some d, op, ty, pos, aft, gd⟩ = true)
    (hr : ∀ w1, (execOp (rhoE a e) ⟨some d, op, ty, pos, aft, gd⟩).run P w1 = .ok (.enter f args) w1)
    (h : ∀ w1, R w w1 → (∀ j, feedB ops ⟨some d, op, ty, pos, aft, gd⟩ j = true → j < i → ex j = false → V j (x j) w1) → Calls P f args w1 fun e' w2 => e' = .returned v ∧ R w1 w2)
    (k : stepsGE P ops R w ex c V x a fin rest (i + 1) ((d, v) :: e)) : stepsGE P ops R w ex c V x a fin (⟨some d, op, ty, pos, aft, gd⟩ :: rest) i e := by
  subst hc
  refine ⟨fun w1 h1 h2 => ?_, by simpa [hx, pushE] using k⟩
  rw [if_pos hw]
  rw [hr w1]
  exact (h w1 h1 h2).mono fun e' w2 ⟨he, hw⟩ => ⟨_, he, hw, by simp [hx]⟩
theorem GE_any (hx : ex i = false) (hw : wantE ops a e ⟨some d, op, ty, pos, aft, gd⟩ = true)
    (h : ∀ w1, R w w1 → (∀ j, feedB ops ⟨some d, op, ty, pos, aft, gd⟩ j = true → j < i → ex j = false → V j (x j) w1) → ∃ v w2, (execOp (rhoE a e) ⟨some d, op, ty, pos, aft, gd⟩).run P w1 = .ok (.value v) w2 ∧ R w1 w2 ∧ V i v w2)
    (k : stepsGE P ops R w ex c V x a fin rest (i + 1) ((d, x i) :: e)) : stepsGE P ops R w ex c V x a fin (⟨some d, op, ty, pos, aft, gd⟩ :: rest) i e := by
  refine ⟨fun w1 h1 h2 => ?_, by simpa [hx, pushE] using k⟩
  rw [if_pos hw]
  obtain ⟨v, w2, hr, h3, h4⟩ := h w1 h1 h2
  rw [hr]
  exact ⟨h3, by simpa [hx] using h4⟩
theorem GE_callp {f : FuncId} {args : Array Value} (hx : ex i = false) (hw : wantE ops a e ⟨some d, op, ty, pos, aft, gd⟩ = true)
    (hr : ∀ w1, (execOp (rhoE a e) ⟨some d, op, ty, pos, aft, gd⟩).run P w1 = .ok (.enter f args) w1)
    (h : ∀ w1, R w w1 → (∀ j, feedB ops ⟨some d, op, ty, pos, aft, gd⟩ j = true → j < i → ex j = false → V j (x j) w1) → Calls P f args w1 fun e' w2 => ∃ v, e' = .returned v ∧ R w1 w2 ∧ V i v w2)
    (k : stepsGE P ops R w ex c V x a fin rest (i + 1) ((d, x i) :: e)) : stepsGE P ops R w ex c V x a fin (⟨some d, op, ty, pos, aft, gd⟩ :: rest) i e := by
  refine ⟨fun w1 h1 h2 => ?_, by simpa [hx, pushE] using k⟩
  rw [if_pos hw]
  rw [hr w1]
  exact (h w1 h1 h2).mono fun e' w2 ⟨v, he, hw, hv⟩ => ⟨v, he, hw, by simpa [hx] using hv⟩
theorem GE_store (hx : ex i = false) (hw : wantE ops a e ⟨none, op, ty, pos, aft, gd⟩ = true)
    (h : ∀ w1, R w w1 → (∀ j, feedB ops ⟨none, op, ty, pos, aft, gd⟩ j = true → j < i → ex j = false → V j (x j) w1) → ∃ w2, (execOp (rhoE a e) ⟨none, op, ty, pos, aft, gd⟩).run P w1 = .ok .skip w2 ∧ R w1 w2 ∧ V i undef w2)
    (k : stepsGE P ops R w ex c V x a fin rest (i + 1) e) : stepsGE P ops R w ex c V x a fin (⟨none, op, ty, pos, aft, gd⟩ :: rest) i e := by
  refine ⟨fun w1 h1 h2 => ?_, by simpa [hx, pushE] using k⟩
  rw [if_pos hw]
  obtain ⟨w2, hr, h3, h4⟩ := h w1 h1 h2
  rw [hr]
  exact ⟨h3, by simpa [hx] using h4⟩
/-- An operation whose guard is not met. -/
theorem GE_skip (hx : ex i = true) (hc : c i = undef) (hw : wantE ops a e ⟨some d, op, ty, pos, aft, gd⟩ = false)
    (k : stepsGE P ops R w ex c V x a fin rest (i + 1) ((d, undef) :: e)) : stepsGE P ops R w ex c V x a fin (⟨some d, op, ty, pos, aft, gd⟩ :: rest) i e := by
  refine ⟨fun w1 h1 h2 => ?_, by simpa [hx, hc, pushE] using k⟩
  rw [if_neg (by simp [hw]), if_pos hx, hc]
theorem GE_nil (h : ∀ w1, R w w1 → (∀ j, j < ops.size → ex j = false → V j (x j) w1) → fin (withEnv a e) w1) : stepsGE P ops R w ex c V x a fin [] i e := h
end
/-- As wp_region_VE where all values are told, with guards that are not met. -/
theorem wp_region_GX {P : Program} {w : World} {a : Act} {Q : Exit → Act → World → Prop} {id : Nat} {l : List Oper} (bt : TypeId) (c : Nat → Value) (hm : P.follows .mixedOrders = true) (hok : okV l.toArray = true)
    (hsz : l.all (fun o => match o.dst with | some d => decide (d < a.tmps.size) | none => true) = true)
    (h : stepsGE P l.toArray (ExtM bt w.heap.size) w (fun _ => true) c (fun _ _ _ => True) (fun _ => undef) a (fun a' w' => Q .normal a' w') l 0 []) : (Code.region id l.toArray true).wp P Q a w :=
  wp_region_KG (R := ExtM bt w.heap.size) 0 (fun _ => false) (fun _ i v _ => v = c i) (fun _ => true) c (fun _ _ _ _ _ hv => hv) hm hok (by simp [okG]) (ExtM.refl _ _) (fun _ _ _ => ExtM.trans) (ExtM.drew _ _ w)
    (fun _ _ _ _ _ _ hv => hv) (fun _ _ _ _ _ _ hv => hv) fun x hx => by
      have := stepsV_of_GE (P := P) (ops := l.toArray) (R := ExtM bt w.heap.size) (w := w) (ex := fun _ => true) (c := c) (V := fun _ _ _ => True) (x := x) (a := a) (fin := fun a' w' => Q .normal a' w') hx l 0 [] (fun _ h => by cases h) hsz (stepsGE_x h)
      rw [show withEnv a [] = a from rfl] at this
      simpa using this
attribute [irreducible] stepsGE
end Go.Sp
namespace Go.Sp
open Go.RowKit
section
variable {P : Program} {w : World} {ρ : Operand → Value} {d : Option Tmp} {ty t t' : TypeId} {pos : String} {aft : Array Edge} {g : Option (Nat × Bool)} {x y z : Operand}
theorem r_neqI {k : IntKind} {a b : Int} (hx : ρ x = .int k a) (hy : ρ y = .int k b) : (execOp ρ ⟨d, .binOp .neq t x y t', ty, pos, aft, g⟩).run P w = .ok (.value (.bool (a != b))) w :=
  r_bin hx hy rfl (by simp [binOp, Op.intCmp])
theorem r_neqB {a b : Bool} (hu : P.underlying t = some .bool) (hx : ρ x = .bool a) (hy : ρ y = .bool b) : (execOp ρ ⟨d, .binOp .neq t x y t', ty, pos, aft, g⟩).run P w = .ok (.value (.bool (a != b))) w :=
  r_bin hx hy rfl (by go_simp; cases a <;> cases b <;> rfl)
theorem r_lssI {k : IntKind} {a b : Int} (hx : ρ x = .int k a) (hy : ρ y = .int k b) : (execOp ρ ⟨d, .binOp .lss t x y t', ty, pos, aft, g⟩).run P w = .ok (.value (.bool (decide (a < b)))) w :=
  r_bin hx hy rfl (by simp [binOp, Op.intCmp])
theorem r_gtrI {k : IntKind} {a b : Int} (hx : ρ x = .int k a) (hy : ρ y = .int k b) : (execOp ρ ⟨d, .binOp .gtr t x y t', ty, pos, aft, g⟩).run P w = .ok (.value (.bool (decide (b < a)))) w :=
  r_bin hx hy rfl (by simp [binOp, Op.intCmp])
theorem r_geqI {k : IntKind} {a b : Int} (hx : ρ x = .int k a) (hy : ρ y = .int k b) : (execOp ρ ⟨d, .binOp .geq t x y t', ty, pos, aft, g⟩).run P w = .ok (.value (.bool (decide (b ≤ a)))) w :=
  r_bin hx hy rfl (by simp [binOp, Op.intCmp])
end
/-- The world grows; a block that is new may turn into this row. -/
structure Grew (n : Nat) (new : Array Value) (u u' : World) : Prop where
  below : Below n u u'
  keep : ∀ (g : Nat) (cs : Array Value) (t : TypeId) (fr : Nat × Nat), u.heap[g]? = some (.cells cs t fr) → ∃ cs', u'.heap[g]? = some (.cells cs' t fr) ∧ (cs' = cs ∨ cs' = new)
theorem Grew.refl {n : Nat} {new : Array Value} (u : World) : Grew n new u u := ⟨Below.refl _ _, fun _ cs _ _ h => ⟨cs, h, .inl rfl⟩⟩
theorem Grew.trans {n : Nat} {new : Array Value} {a b c : World} (h : Grew n new a b) (k : Grew n new b c) : Grew n new a c := ⟨h.below.trans k.below, fun g cs t fr hg => by
  obtain ⟨c1, h1, e1⟩ := h.keep g cs t fr hg
  obtain ⟨c2, h2, e2⟩ := k.keep g c1 t fr h1
  refine ⟨c2, h2, ?_⟩
  rcases e2 with rfl | rfl
  · exact e1
  · exact .inr rfl⟩
theorem Grew.drew {n : Nat} {new : Array Value} (w : World) : Grew n new w w.drew := ⟨(Below.refl _ _).drew, fun _ cs _ _ h => ⟨cs, h, .inl rfl⟩⟩
theorem Grew.of {n : Nat} {new : Array Value} {u u' : World} (h : Below u.heap.size u u') (hn : n ≤ u.heap.size) : Grew n new u u' := ⟨h.mono hn, fun g cs _ _ hg => ⟨cs, (h.block g (Array.getElem?_eq_some_iff.1 hg).1).trans hg, .inl rfl⟩⟩
end Go.Sp
namespace Go.Sp
open Go.RowKit
theorem Grew.blk {n : Nat} {new : Array Value} {u u' : World} (h : Grew n new u u') {g : Nat} {cs : Array Value} {t : TypeId} (hB : Blk u g cs t) : Blk u' g cs t ∨ Blk u' g new t := by
  obtain ⟨c, h1, rfl | rfl⟩ := h.keep g cs t (0, 0) hB
  · exact .inl h1
  · exact .inr h1
theorem Grew.blkn {n : Nat} {new : Array Value} {u u' : World} (h : Grew n new u u') {g : Nat} {t : TypeId} (hB : Blk u g new t) : Blk u' g new t := by
  rcases h.blk hB with h | h <;> exact h
theorem Grew.store {n g : Nat} {new old : Array Value} {t : TypeId} {u u' : World} (ho : Only g u u') (hb : Blk u g old t) (hb' : Blk u' g new t) (hg : n ≤ g) : Grew n new u u' := by
  refine ⟨ho.below hg (by have := hb.lt; omega), fun k cs t' fr hk => ?_⟩
  by_cases e : k = g
  · subst e
    have h1 : u.heap[k]? = some (.cells old t (0, 0)) := hb
    rw [h1] at hk
    cases hk
    exact ⟨new, hb', .inr rfl⟩
  · exact ⟨cs, (ho.block k (Array.getElem?_eq_some_iff.1 hk).1 e).trans hk, .inl rfl⟩
theorem grow_store {P : Program} {u : World} {ρ : Operand → Value} {d : Option Tmp} {ty t : TypeId} {pos : String} {aft : Array Edge} {g : Option (Nat × Bool)} {x y : Operand} {n g1 : Nat} {old C : Array Value} {tb : TypeId} {V : World → Prop}
    (hx : ρ x = .pointer (some ⟨g1, 0, none⟩)) (hy : ρ y = .agg C) (hB : Blk u g1 old tb ∨ Blk u g1 C tb) (hs : old.size = C.size) (hi : (P.info? t).map (·.size) = some C.size) (ho : C.all (·.oneCell') = true) (hg : n ≤ g1) (hV : ∀ w2, Blk w2 g1 C tb → V w2) :
    ∃ w2, (execOp ρ ⟨d, .store t x y, ty, pos, aft, g⟩).run P u = .ok .skip w2 ∧ Grew n C u w2 ∧ V w2 := by
  have hB' : ∃ old, Blk u g1 old tb ∧ old.size = C.size := by
    rcases hB with hB | hB
    · exact ⟨_, hB, hs⟩
    · exact ⟨_, hB, rfl⟩
  obtain ⟨old, hB', hos⟩ := hB'
  obtain ⟨u', hr, hb', ho, _⟩ := r_storeBlk (P := P) (d := d) (ty := ty) (pos := pos) (aft := aft) (g := g) hx hy hB' hos hi ho
  exact ⟨u', hr, Grew.store ho hB' hb' hg, hV u' hb'⟩
theorem r_pickF {P : Program} {w : World} {ρ : Operand → Value} {d : Option Tmp} {ty : TypeId} {pos : String} {aft : Array Edge} {g : Option (Nat × Bool)} {x y z : Operand} {v : Value} (hx : ρ x = .bool false) (hz : ρ z = v) : (execOp ρ ⟨d, .pick x y z, ty, pos, aft, g⟩).run P w = .ok (.value v) w :=
  r_pick hx (by rw [if_neg (by decide), hz])
theorem recsM_self (p : Int) (nm : ByteArray) (t a v : Int) : recsM p nm t a v p nm t a v = true := by simp [recsM]
theorem chM_form (p : Int) (nm : ByteArray) (t a v now : Int) : ∃ p1 nm1 t1 a1 v1 b, chM p nm t a v now = (recV p1 nm1 t1 a1 v1, b) := by
  unfold chM
  split
  · exact ⟨_, _, _, _, _, _, rfl⟩
  · exact ⟨_, _, _, _, _, _, rfl⟩
/-- What is told of the row that a drawn region makes and fills. -/
def VGr (n : Nat) (old new : Array Value) (t : TypeId) (ai si : Nat) (y : Value) (j : Nat) (v : Value) (u : World) : Prop :=
  (j = ai → ∃ g, v = .pointer (some ⟨g, 0, none⟩) ∧ n ≤ g ∧ (Blk u g old t ∨ Blk u g new t)) ∧ (j = si → ∃ g, y = .pointer (some ⟨g, 0, none⟩) ∧ n ≤ g ∧ Blk u g new t)
theorem VGr.mono {n : Nat} {old new : Array Value} {t : TypeId} {ai si : Nat} (y : Value) (j : Nat) (v : Value) (u u' : World) (h : Grew n new u u') (k : VGr n old new t ai si y j v u) : VGr n old new t ai si y j v u' := by
  refine ⟨fun hj => ?_, fun hj => ?_⟩
  · obtain ⟨g, h1, h2, h3⟩ := k.1 hj
    refine ⟨g, h1, h2, ?_⟩
    rcases h3 with h3 | h3
    · exact h.blk h3
    · exact .inr (h.blkn h3)
  · obtain ⟨g, h1, h2, h3⟩ := k.2 hj
    exact ⟨g, h1, h2, h.blkn h3⟩
theorem VGr.dep {n : Nat} {old new : Array Value} {t : TypeId} {ai si : Nat} (y y' : Value) (j : Nat) (v : Value) (u : World) (hd : (j == si) = false) (k : VGr n old new t ai si y j v u) : VGr n old new t ai si y' j v u :=
  ⟨k.1, fun hj => by simp [hj] at hd⟩
theorem VGr.al {n : Nat} {old new : Array Value} {t : TypeId} {ai si : Nat} {y : Value} {u : World} (hne : ai ≠ si) (hn : n ≤ u.heap.size) : VGr n old new t ai si y ai (.pointer (some ⟨u.heap.size, 0, none⟩)) (u.alloc (.cells old t)) :=
  ⟨fun _ => ⟨_, rfl, hn, .inl (Blk.new u _ t)⟩, fun h => absurd h hne⟩
theorem VGr.st {n g : Nat} {old new : Array Value} {t : TypeId} {ai si : Nat} {y v : Value} (hne : ai ≠ si) (hy : y = .pointer (some ⟨g, 0, none⟩)) (hn : n ≤ g) (w2 : World) (h : Blk w2 g new t) : VGr n old new t ai si y si v w2 :=
  ⟨fun h => absurd h.symm hne, fun _ => ⟨g, hy, hn, h⟩⟩
end Go.Sp
namespace Go.Proofs.Ythpjihiikkhcjaa
open Go.RowKit Go.Sp
theorem sl41 : slOf Try.prog 41 = true := by kernel_rfl
theorem pf19 : plainFn Try.prog 19 = true := by kernel_rfl
theorem pf28 : plainFn Try.prog 28 = true := by kernel_rfl
theorem pf29 : plainFn Try.prog 29 = true := by kernel_rfl
theorem pf31 : plainFn Try.prog 31 = true := by kernel_rfl
theorem pf32 : plainFn Try.prog 32 = true := by kernel_rfl
theorem pf33 : plainFn Try.prog 33 = true := by kernel_rfl
theorem pf34 : plainFn Try.prog 34 = true := by kernel_rfl
theorem r_alloc28 {ρ : Operand → Value} {d ty pos aft g} (u : World) : (execOp ρ ⟨d, .alloc 28, ty, pos, aft, g⟩).run Try.prog u = .ok (.value (.pointer (some ⟨u.heap.size, 0, none⟩))) (u.alloc (.cells (recV 0 ⟨#[]⟩ 0 0 0) 28)) := by
  simp only [execOp]
  go_simp
  rfl
end Go.Proofs.Ythpjihiikkhcjaa
