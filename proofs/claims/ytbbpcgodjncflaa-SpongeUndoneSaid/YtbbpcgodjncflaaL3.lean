/-
  A part of the proofs of this seat: laws of the walk, or contracts of the functions that the statements reach. No conditions but those that each theorem names.
-/
import Derived.Test.YtbbpcgodjncflaaY
import Derived.Test.YtbbpcgodjncflaaArgs
namespace Go.Sp
open Go.RowKit
def S8.setw (s : S8) (k : Nat) (x : UInt32) : S8 :=
  match k with
  | 0 => { s with a := x } | 1 => { s with b := x } | 2 => { s with c := x } | 3 => { s with d := x }
  | 4 => { s with e := x } | 5 => { s with f := x } | 6 => { s with g := x } | _ => { s with h := x }
theorem S8.setw_vals (s : S8) (k : Nat) (hk : k < 8) (x : UInt32) : s.vals.setIfInBounds k (W x) = (s.setw k x).vals := by
  have h8 : k = 0 ∨ k = 1 ∨ k = 2 ∨ k = 3 ∨ k = 4 ∨ k = 5 ∨ k = 6 ∨ k = 7 := by omega
  rcases h8 with rfl | rfl | rfl | rfl | rfl | rfl | rfl | rfl <;> rfl
section
variable {P : Program} {w : World} {a : Act} {fin : Env → Prop} {rest : List Oper} {e : Env} {d : Nat} {ty t t' : TypeId} {pos : String} {aft : Array Edge} {x y : Operand}
theorem E_convIW {n : Int} {s : TypeDesc} (hx : rhoE a e x = .int .i64 n) (hs : P.underlying t = some s) (hd : P.underlying t' = some (.int .u32)) (h : stillE P w a fin rest ((d, W (w32 n)) :: e)) :
    stillE P w a fin (⟨some d, .convert t t' x, ty, pos, aft, none⟩ :: rest) e :=
  E_cons (by simp only [execOp, hx, Sem.run_bind, run_convert_u32 w t t' .i64 n (by rw [hs]; rfl) hd, Result.andThen_ok, Sem.run_pure]) h
theorem E_shrI {n m : Int} {k : IntKind} (hx : rhoE a e x = .int .i64 n) (hy : rhoE a e y = .int k m) (h0 : 0 ≤ m ∧ m ≤ 64) (h : stillE P w a fin rest ((d, .int .i64 (n / 2 ^ m.toNat)) :: e)) :
    stillE P w a fin (⟨some d, .binOp .shr t x y t', ty, pos, aft, none⟩ :: rest) e :=
  E_cons (r_bin hx hy rfl (by rw [binOp_shr, shift_shr_i64 _ _ _ h0.1 h0.2]; rfl)) h
end
end Go.Sp
namespace Go.Proofs.Ytbbpcgodjncflaa
open Go.RowKit Go.Sp
theorem sl22 : slOf Try.prog 22 = true := by kernel_rfl
theorem pf15 : plainFn Try.prog 15 = true := by kernel_rfl
set_option maxRecDepth 100000 in
set_option maxHeartbeats 2000000 in
theorem mixes_any (v : Value) (ns : List Int) (w : World) (hv : Nums w v ns) :
    Calls Try.prog 3 #[v] w fun e w' => e = .returned (.bool true) ∧ Below w.heap.size w w' := by
  obtain ⟨na, nc, rfl, hnl, hnm⟩ := hv.len
  unfold maxLen at hnm
  have HV := Lib.hid hv
  clear hv
  go_enter Try.func3, Try.ntmps3
  go_wp2_with fail
  refine (known_any _).mono ?_
  rintro _ w1 ⟨rfl, hb1⟩
  go_wp2
  go_loopw [4] (fun i wr => ∃ (k : Nat) (s : S8), k ≤ 8 ∧ k ≤ ns.length ∧ i = .int .i64 k ∧ Blk wr w1.heap.size s.vals 25 ∧ Below w1.heap.size w1 wr) (fun i _ => (8 - intOf i).toNat)
  case atStart => exact ⟨0, S8.zero, by omega, by omega, rfl, Blk.new w1 S8.zero.vals 25, (Below.refl _ _).alloc (Nat.le_refl _) _⟩
  case round =>
    obtain ⟨k, s, hk, hkn, rfl, hB, hbr⟩ := hrel
    have hbw := hb1.trans (hbr.mono hb1.size)
    have hlt1 := hbr.size
    by_cases hgo : k < 8 ∧ k < ns.length
    · obtain ⟨h8, hn⟩ := hgo
      have h8' : (k : Int) < 8 := by omega
      have hn' : (k : Int) < (ns.length : Int) := by omega
      rcases HV.out with ⟨_, rfl⟩ | ⟨g, off, cap, hvv, _, _, hg, h4⟩
      · simp at hn
      simp only [Value.slice.injEq, true_and] at hvv
      obtain ⟨rfl, rfl⟩ := hvv
      have hc := (h4 k ns[k] (by simp [hn])).1
      have hcr : wr.drew.cell? ⟨g, off + k, none⟩ = some (.int .i64 ns[k]) := (World.cell?_of_block (a := ⟨g, off + k, none⟩) (hbw.block g hg)).trans hc
      clear h4 hc
      go_wp2
      refine wp_region_T 14 (by kernel_rfl) (by kernel_rfl) (by kernel_rfl) ?_
      simp only [List.take_succ_cons, List.take_zero, List.drop_succ_cons, List.drop_zero]
      refine E_move (rho_base rfl rfl) ?_
      refine E_move (rho_base rfl rfl) ?_
      refine E_move (rho_base rfl rfl) ?_
      refine E_indexSl (rho_env rfl) (rho_env rfl) sl22 ⟨by omega, by omega, rfl⟩ ?_
      refine E_load (rho_env rfl) on3 hcr ?_
      refine E_convIW (rho_env rfl) Try.underlying3 Try.underlying24 ?_
      refine E_move (rho_base rfl rfl) ?_
      refine E_move (rho_base rfl rfl) ?_
      refine E_indexSl (rho_env rfl) (rho_env rfl) sl22 ⟨by omega, by omega, rfl⟩ ?_
      refine E_load (rho_env rfl) on3 hcr ?_
      refine E_shrI (rho_env rfl) rho_const ⟨by decide, by decide⟩ ?_
      refine E_convIW (rho_env rfl) Try.underlying3 Try.underlying24 ?_
      refine E_xorW (rho_env rfl) (rho_env rfl) ?_
      refine E_indexArr (rho_base rfl rfl) (rho_env rfl) ar25 ⟨by omega, by omega, rfl⟩ ?_
      refine E_nil ?_
      clear hcr
      have hbf := hB.drew.frozen
      have hcs : wr.drew.cell? ⟨w1.heap.size, k, none⟩ = s.vals[k]? := hB.drew.cell k
      have hvk : s.vals[k]? = some (s.vals[k]'(by simp [S8.vals]; omega)) := by simp
      have hcs' := hcs.trans hvk
      have HS := Lib.hid (S8.setw_vals s k h8)
      clear hcs hvk
      refine wpList_norm (rfl : setsL _ 0 _ = [_, _, _, _, _, _, _, _, _, _, _, _, _, _, _, _, _, _, _, _, _, _, _, _, _, _, _, _, _, _, _, _, _, _, _, _, _, _, _, _, _, _, _, _, _]) ?_
      simp only [Nat.zero_add, Int.toNat_natCast]
      go_wp2
      go_roundw
      case rel => exact ⟨k + 1, s.setw k _, by omega, by omega, by go_num, by rw [← HS.out]; exact hB.drew.set k _, hbr.drew.setCell (p := ⟨w1.heap.size, k, none⟩) (Nat.le_refl _) _⟩
      case measure => simp [intOf]; omega
    · have hend : ¬ ((k : Int) < 8) ∨ ((k : Int) < 8 ∧ ¬ ((k : Int) < (ns.length : Int))) := by omega
      clear hgo
      rcases hend with h8 | ⟨h8, hn⟩
      all_goals
        go_wp2_with (refine (show wpList _ _ _ (⟨some 32, .load 25 (.tmp 3), _, _, _, _⟩ :: _) _ _ from stop_here ?_))
        refine Stop.go (wpList_load_row rfl 25 (.tmp 3) rfl w1.heap.size rfl 25 s.vals (0, 0) _ hB Try.underlying25 rfl (by kernel_rfl) ?_)
        go_wp2_with fail
        refine (mix_any s _).mono ?_
        rintro _ w2 ⟨rfl, hb2⟩
        have hB1 := hB.ext hb2
        obtain ⟨m, hm⟩ : ∃ m, m = mix s := ⟨_, rfl⟩
        go_wp2_with (refine (show wpList _ _ _ (⟨none, .store 25 (.tmp 5) (.tmp 33), _, _, _, _⟩ :: _) _ _ from stop_here ?_))
        refine Stop.go (wpList_store_blk rfl rfl rfl rfl (Blk.new w2 _ 25) (by simp [S8.vals]) (by kernel_rfl) (vals_one _) ?_)
        intro w3 hB2 hO3
        have hb3 : Below w2.heap.size w2 w3 := ((Below.refl _ _).alloc (Nat.le_refl _) _).trans (hO3.below (Nat.le_refl _) (by simp))
        replace hB1 := hB1.ext hb3
        have hbw3 := hbw.trans ((hb2.trans (hb3.mono hb2.size)).mono hbw.size)
        clear hB hbr hO3 hb3 hb2 hbw hb1 hm
        clear m
        go_wp2
        have hx : ∀ {u u' : World}, ExtM w3.heap.size w3 u → Below u.heap.size u u' → ExtM w3.heap.size u u' := fun h k => ExtM.of k h.below.size
        refine wp_region_VE (fun _ => true) (fun j => (lookL [.agg (mix s).vals, .agg s.vals, .agg (mix s).vals, .bool true, .bool true, .agg (mix s).vals, .agg (mix (mix s)).vals, .agg (mix s).vals, .agg (mix (mix s)).vals, .bool true, .bool true, .bool true] j).getD undef) (fun _ _ _ => True) (by kernel_rfl) (by kernel_rfl) (by kernel_rfl) (fun _ _ _ _ _ _ => trivial) fun x => ?_
        refine VE_ex (v := .agg (mix s).vals) rfl rfl rfl (fun u hu hf => r_loadBlk (rho_base rfl rfl) (hB2.ext hu.below) Try.underlying25 rfl (by kernel_rfl)) ?_
        refine VE_ex (v := .agg s.vals) rfl rfl rfl (fun u hu hf => r_loadBlk (rho_base rfl rfl) (hB1.ext hu.below) Try.underlying25 rfl (by kernel_rfl)) ?_
        refine VE_call (v := .agg (mix s).vals) (f := 17) (args := #[.agg s.vals]) rfl rfl rfl (fun u => r_call pf17 (map1 (rho_env rfl)) rfl) (fun u hu hf => ?_) ?_
        · refine (rmix_any s u).mono ?_
          rintro _ u' ⟨rfl, hb⟩
          exact ⟨rfl, hx hu hb⟩
        refine VE_ex (v := .bool true) rfl rfl rfl (fun u hu hf => (r_eqlW arA25 (rho_env rfl) (rho_env rfl)).trans (by simp)) ?_
        refine VE_ex (v := .bool true) rfl rfl rfl (fun u hu hf => r_move (rho_env rfl)) ?_
        refine VE_ex (v := .agg (mix s).vals) rfl rfl rfl (fun u hu hf => r_loadBlk (rho_base rfl rfl) (hB2.ext hu.below) Try.underlying25 rfl (by kernel_rfl)) ?_
        refine VE_call (v := .agg (mix (mix s)).vals) (f := 16) (args := #[.agg (mix s).vals]) rfl rfl rfl (fun u => r_call pf16 (map1 (rho_env rfl)) rfl) (fun u hu hf => ?_) ?_
        · refine (mix_any (mix s) u).mono ?_
          rintro _ u' ⟨rfl, hb⟩
          exact ⟨rfl, hx hu hb⟩
        refine VE_ex (v := .agg (mix s).vals) rfl rfl rfl (fun u hu hf => r_loadBlk (rho_base rfl rfl) (hB2.ext hu.below) Try.underlying25 rfl (by kernel_rfl)) ?_
        refine VE_call (v := .agg (mix (mix s)).vals) (f := 17) (args := #[.agg (mix s).vals]) rfl rfl rfl (fun u => r_call pf17 (map1 (rho_env rfl)) rfl) (fun u hu hf => ?_) ?_
        · refine (rmix_any (mix s) u).mono ?_
          rintro _ u' ⟨rfl, hb⟩
          exact ⟨rfl, hx hu hb⟩
        refine VE_ex (v := .bool true) rfl rfl rfl (fun u hu hf => (r_eqlW arA25 (rho_env rfl) (rho_env rfl)).trans (by simp)) ?_
        refine VE_ex (v := .bool true) rfl rfl rfl (fun u hu hf => r_pickT (rho_env rfl) (rho_env rfl)) ?_
        refine VE_ex (v := .bool true) rfl rfl rfl (fun u hu hf => r_assign (rho_env rfl)) ?_
        refine VE_nil fun u hu hf => ?_
        rw [withEnv_norm (rfl : setsL _ 0 _ = [_, _, _, _, _, _, _, _, _, _, _, _, _, _, _, _, _, _, _, _, _, _, _, _, _, _, _, _, _, _, _, _, _, _, _, _, _, _, _, _, _, _, _, _, _])]
        have hbu := hbw3.trans (hu.below.mono hbw3.size)
        clear hB1 hB2 hbw3 hx hf hu
        go_wp2
        go_ret
        exact ⟨rfl, hbu⟩
end Go.Proofs.Ytbbpcgodjncflaa
