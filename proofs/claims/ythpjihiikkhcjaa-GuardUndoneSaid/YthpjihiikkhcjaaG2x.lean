/-
  A part of the proofs of this seat: laws of the walk, or contracts of the functions that the statements reach. No conditions but those that each theorem names.
-/
import Derived.Test.YthpjihiikkhcjaaG1x
namespace Go.Sp
open Go.RowKit
section
variable {P : Program} {hd : Nat → Bool} {xh : Nat → Value} {Sc : World → Prop} {S : List Value → World → Prop} {a : Act} {fin : Act → World → Prop} {rest : List Oper} {i : Nat} {e : Env} {vs : List Value} {op : Op} {ty : TypeId} {pos : String} {aft : Array Edge} {gd : Option (Nat × Bool)}
theorem HE_store (hh : hd i = false) (h : ∀ u, S vs u → ∃ u', (execOp (rhoE a e) ⟨none, op, ty, pos, aft, gd⟩).run P u = .ok .skip u' ∧ ∀ v, S (vs ++ [v]) u') (k : ∀ v, stepsHE P hd xh Sc S a fin rest (i + 1) e (vs ++ [v])) : stepsHE P hd xh Sc S a fin (⟨none, op, ty, pos, aft, gd⟩ :: rest) i e vs := by
  unfold stepsHE; rw [if_neg (by simp [hh])]
  refine ⟨fun u hu => ?_, k⟩
  obtain ⟨u', hr, hs⟩ := h u hu
  rw [hr]; exact hs _
end
end Go.Sp
namespace Go.Proofs.Ythpjihiikkhcjaa
open Go.RowKit Go.Sp
theorem clone_nil (w : World) : Calls Try.prog 57 #[.slice none 0 0] w fun e w' => e = .returned (.slice none 0 0) ∧ w' = w := by
  have hk := fun (w : World) a n c => Lib.run_eql_slice_nil (P := Try.prog) w 23 5 a n c 0 0 Try.underlying23
  go_enter Try.func57, Try.ntmps57
  go_wp2
  go_ret
  exact ⟨rfl, rfl⟩
theorem pf57 : plainFn Try.prog 57 = true := by kernel_rfl
theorem fld28_2 : fieldOff Try.prog 28 2 = some 2 := by kernel_rfl
theorem fld28_5 : fieldOff Try.prog 28 5 = some 19 := by kernel_rfl
theorem on23 : oneT Try.prog 23 = true := by kernel_rfl
theorem size28 (p : Int) (nm : ByteArray) (t a v : Int) : (Try.prog.info? 28).map (·.size) = some (recV p nm t a v).size := by
  rw [show (recV p nm t a v).size = 23 from rfl]; kernel_rfl
theorem os23 : oneS Try.prog 23 = true := by kernel_rfl
def hd48 (i : Nat) : Bool := !([2, 5, 7, 9].contains i)
def S48 (w : World) (g : Nat) (R : Array Value) (vs : List Value) (u : World) : Prop :=
  (∀ x ∈ vs.take 2, x = .slice none 0 0) ∧ Blk u w.heap.size R 28 ∧ Blk u g (recV 0 ⟨#[]⟩ 0 0 0) 28 ∧ Below w.heap.size w u
set_option maxRecDepth 100000 in
set_option maxHeartbeats 2000000 in
theorem with_any (p : Int) (nm : ByteArray) (t a v n at_ : Int) (w : World) :
    Calls Try.prog 48 #[.agg (recV p nm t a v), .int .i64 n, .int .i64 at_] w fun e w' => e = .returned (.agg (recV p nm (max 0 (min n 5)) at_ v)) ∧ Below w.heap.size w w' := by
  have hrv : recV p nm t a v = #[.int .i64 p, .string nm, .slice none 0 0, .int .u32 0, .int .u32 0, .int .u32 0, .int .u32 0, .int .u32 0, .int .u32 0, .int .u32 0, .int .u32 0, .int .u32 0, .int .u32 0, .int .u32 0, .int .u32 0, .int .u32 0, .int .u32 0, .int .u32 0, .int .u32 0, .slice none 0 0, .int .i64 t, .int .i64 a, .int .i64 v] := rfl
  have hrz : recV 0 ⟨#[]⟩ 0 0 0 = #[.int .i64 0, .string ⟨#[]⟩, .slice none 0 0, .int .u32 0, .int .u32 0, .int .u32 0, .int .u32 0, .int .u32 0, .int .u32 0, .int .u32 0, .int .u32 0, .int .u32 0, .int .u32 0, .int .u32 0, .int .u32 0, .int .u32 0, .int .u32 0, .int .u32 0, .int .u32 0, .slice none 0 0, .int .i64 0, .int .i64 0, .int .i64 0] := rfl
  have hR3 : Blk ((w.alloc (.cells (recV p nm t a v) 28)).alloc (.cells (recV 0 ⟨#[]⟩ 0 0 0) 28)) w.heap.size (recV p nm t a v) 28 := (Blk.new w _ 28).alloc _
  have hR6 : Blk ((w.alloc (.cells (recV p nm t a v) 28)).alloc (.cells (recV 0 ⟨#[]⟩ 0 0 0) 28)) (w.heap.size + 1) (recV 0 ⟨#[]⟩ 0 0 0) 28 := Blk.newAt (by simp) _ 28
  have hbw : Below w.heap.size w ((w.alloc (.cells (recV p nm t a v) 28)).alloc (.cells (recV 0 ⟨#[]⟩ 0 0 0) 28)) := ((Below.refl _ _).alloc (Nat.le_refl _) _).alloc (by simp) _
  obtain ⟨w1, hw1⟩ : ∃ u, u = (w.alloc (.cells (recV p nm t a v) 28)).alloc (.cells (recV 0 ⟨#[]⟩ 0 0 0) 28) := ⟨_, rfl⟩
  rw [← hw1] at hR3 hR6 hbw
  rw [hrv, hrz] at hw1
  rw [hrv]
  have HW := Lib.hid hw1
  have HRV := Lib.hid hrv
  have HRZ := Lib.hid hrz
  clear hw1 hrv hrz
  go_enter Try.func48, Try.ntmps48
  go_wp2_with fail
  rw [← HW.out]
  clear HW
  refine (bucket_any _).mono ?_
  rintro _ w2 ⟨rfl, hb2⟩
  go_wp2_with fail
  refine (into_any n _).mono ?_
  rintro _ w3 ⟨rfl, hb3⟩
  have hb13 := hb2.trans (hb3.mono hb2.size)
  have hR33 := hR3.ext hb13
  have hR63 := hR6.ext hb13
  have hbw3 := hbw.trans (hb13.mono hbw.size)
  have hl6 := hR63.lt
  clear hb2 hb3 hb13 hR3 hR6 hbw
  obtain ⟨T, hT⟩ : ∃ T : Int, T = max 0 (min n 5) := ⟨_, rfl⟩
  rw [← hT]
  have HT := Lib.hid hT
  clear hT
  rw [HRV.out] at hR33
  have hbc := hR33.cell
  have hbf := hR33.frozen
  go_wp2
  rw [← HRV.out] at hR33
  have hR34 : Blk ((w3.setCell ⟨w.heap.size, 20, none⟩ (.int .i64 T)).setCell ⟨w.heap.size, 21, none⟩ (.int .i64 at_)) w.heap.size (recV p nm T at_ v) 28 := (hR33.set 20 _).set 21 _
  have hR64 := (hR63.setOther ⟨w.heap.size, 20, none⟩ (.int .i64 T) (by show w.heap.size + 1 ≠ w.heap.size; omega)).setOther ⟨w.heap.size, 21, none⟩ (.int .i64 at_) (by show w.heap.size + 1 ≠ w.heap.size; omega)
  have hbw4 := (hbw3.setCell (p := ⟨w.heap.size, 20, none⟩) (Nat.le_refl _) (.int .i64 T)).setCell (p := ⟨w.heap.size, 21, none⟩) (Nat.le_refl _) (.int .i64 at_)
  generalize (w3.setCell ⟨w.heap.size, 20, none⟩ (.int .i64 T)).setCell ⟨w.heap.size, 21, none⟩ (.int .i64 at_) = w4 at *
  clear hbc hbf hR33 hR63 hbw3
  refine wp_region_HE hd48 (fun ix => (lookL [.pointer (some ⟨w.heap.size, 0 + 2, none⟩), .slice none 0 0, undef, .pointer (some ⟨w.heap.size, 0 + 19, none⟩), .slice none 0 0, undef, .pointer (some ⟨w.heap.size, 0 + 2, none⟩), undef, .pointer (some ⟨w.heap.size, 0 + 19, none⟩), undef] ix).getD undef) (fun u => Blk u w.heap.size (recV p nm T at_ v) 28) (S48 w (w.heap.size + 1) (recV p nm T at_ v)) (by kernel_rfl) (by kernel_rfl) (by kernel_rfl) (fun vs u h => h.2.1) ⟨fun x hx => (by cases hx), hR34.drew, hR64.drew, hbw4.drew⟩ ?_
  refine HE_head (v := .pointer (some ⟨w.heap.size, 0 + 2, none⟩)) rfl rfl (fun u hu => r_fieldAddr (rho_base rfl rfl) fld28_2) ?_
  refine HE_head (v := .slice none 0 0) rfl rfl (fun u hu => r_load (rho_env rfl) on23 (by rw [hu.cell]; rfl)) ?_
  refine HE_call (f := 57) (args := #[.slice none 0 0]) rfl (fun u => r_call pf57 (map1 (rho_env rfl)) rfl) (fun u hu => (clone_nil u).mono ?_) fun v1 => ?_
  · rintro _ u' ⟨rfl, rfl⟩
    exact ⟨_, rfl, fun x hx => by simpa using hx, hu.2⟩
  refine HE_head (v := .pointer (some ⟨w.heap.size, 0 + 19, none⟩)) rfl rfl (fun u hu => r_fieldAddr (rho_base rfl rfl) fld28_5) ?_
  refine HE_head (v := .slice none 0 0) rfl rfl (fun u hu => r_load (rho_env rfl) on23 (by rw [hu.cell]; rfl)) ?_
  refine HE_call (f := 57) (args := #[.slice none 0 0]) rfl (fun u => r_call pf57 (map1 (rho_env rfl)) rfl) (fun u hu => (clone_nil u).mono ?_) fun v2 => ?_
  · rintro _ u' ⟨rfl, rfl⟩
    refine ⟨_, rfl, fun x hx => ?_, hu.2⟩
    simp at hx
    rcases hx with rfl | rfl
    · exact hu.1 _ (by simp)
    · rfl
  refine HE_head (v := .pointer (some ⟨w.heap.size, 0 + 2, none⟩)) rfl rfl (fun u hu => r_fieldAddr (rho_base rfl rfl) fld28_2) ?_
  refine HE_store rfl (fun u hu => ?_) fun v3 => ?_
  · have h1 := hu.1 v1 (by simp)
    subst h1
    exact ⟨_, r_store1 (rho_env rfl) (rho_env rfl) os23 (by rw [hu.2.1.cell]; rfl) (hu.2.1.frozen _) rfl, fun _ => ⟨hu.1, hu.2.1.set 2 (.slice none 0 0), hu.2.2.1.setOther _ _ (by show w.heap.size + 1 ≠ w.heap.size; omega), hu.2.2.2.setCell (Nat.le_refl _) _⟩⟩
  refine HE_head (v := .pointer (some ⟨w.heap.size, 0 + 19, none⟩)) rfl rfl (fun u hu => r_fieldAddr (rho_base rfl rfl) fld28_5) ?_
  refine HE_store rfl (fun u hu => ?_) fun v4 => ?_
  · have h2 := hu.1 v2 (by simp)
    subst h2
    exact ⟨_, r_store1 (rho_env rfl) (rho_env rfl) os23 (by rw [hu.2.1.cell]; rfl) (hu.2.1.frozen _) rfl, fun _ => ⟨hu.1, hu.2.1.set 19 (.slice none 0 0), hu.2.2.1.setOther _ _ (by show w.heap.size + 1 ≠ w.heap.size; omega), hu.2.2.2.setCell (Nat.le_refl _) _⟩⟩
  refine HE_nil fun u hu => ?_
  obtain ⟨_, hR35, hR65, hbw5⟩ := hu
  clear hR34 hR64 hbw4
  rw [withEnv_norm (rfl : setsL _ 0 _ = [_, _, _, _, _, _, _, _, _, _, _, _, _, _, _, _, _, _, _, _, _, _])]
  go_wp2_with (refine (show wpList _ _ _ (⟨some 21, .load 28 (.tmp 3), _, _, _, _⟩ :: _) _ _ from stop_here ?_))
  refine Stop.go (wpList_val rfl (r_loadBlk rfl hR35 Try.underlying28 rfl (size28 _ _ _ _ _)) ?_)
  go_wp2_with (refine (show wpList _ _ _ (⟨none, .store 28 (.tmp 6) (.tmp 21), _, _, _, _⟩ :: _) _ _ from stop_here ?_))
  refine Stop.go (wpList_store_blk rfl rfl rfl rfl hR65 rfl (size28 _ _ _ _ _) (by simp [recV, Value.oneCell']) ?_)
  intro w6 hR66 hO6
  have hbw6 := hbw5.trans (hO6.below (by omega) hbw5.size)
  clear hO6 hR35 hR65 hbw5
  go_wp2
  exact bodyPost_ret (results_cell_row rfl _ _ (w.heap.size + 1) 28 _ (0, 0) _ rfl hR66 Try.underlying28 rfl (size28 _ _ _ _ _)) rfl ⟨by rw [HT.out], hbw6⟩
end Go.Proofs.Ythpjihiikkhcjaa
