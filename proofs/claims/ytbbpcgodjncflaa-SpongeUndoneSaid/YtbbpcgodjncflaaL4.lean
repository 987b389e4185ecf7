/-
  A part of the proofs of this seat: laws of the walk, or contracts of the functions that the statements reach. No conditions but those that each theorem names.
-/
import Derived.Test.YtbbpcgodjncflaaL3
import Derived.Test.YtbbpcgodjncflaaZ2
namespace Go.Proofs.Ytbbpcgodjncflaa
open Go.RowKit Go.Sp
theorem pf18 : plainFn Try.prog 18 = true := by kernel_rfl
set_option maxRecDepth 100000 in
set_option maxHeartbeats 2000000 in
theorem undone_any (v : Value) (ns : List Int) (w : World) (hv : Nums w v ns) :
    Calls Try.prog 4 #[v] w fun e w' => e = .returned (.bool true) ∧ Below w.heap.size w w' := by
  obtain ⟨na, nc, rfl, hnl, hnm⟩ := hv.len
  unfold maxLen at hnm
  have HV := Lib.hid hv
  clear hv
  go_enter Try.func4, Try.ntmps4
  go_wp2_with fail
  refine (known_any _).mono ?_
  rintro _ w1 ⟨rfl, hb1⟩
  go_wp2
  go_loopw [4] (fun i wr => ∃ (k : Nat) (s : S8), k ≤ 8 ∧ k ≤ ns.length ∧ i = .int .i64 k ∧ Blk wr w1.heap.size s.vals 25 ∧ Below w1.heap.size w1 wr) (fun i _ => (8 - intOf i).toNat)
  case atStart => exact ⟨0, S8.zero, by omega, by omega, rfl, Blk.new w1 S8.zero.vals 25, (Below.refl _ _).alloc (Nat.le_refl _) _⟩
  case round =>
    obtain ⟨k, s, hk, hkn, rfl, hB, hbr⟩ := hrel
    have hbw := hb1.trans (hbr.mono hb1.size)
    have hlt1 := hbr.size
    by_cases hgo : k < 8 ∧ k < ns.length
    · obtain ⟨h8, hn⟩ := hgo
      have h8' : (k : Int) < 8 := by omega
      have hn' : (k : Int) < (ns.length : Int) := by omega
      rcases HV.out with ⟨_, rfl⟩ | ⟨g, off, cap, hvv, _, _, hg, h4⟩
      · simp at hn
      simp only [Value.slice.injEq, true_and] at hvv
      obtain ⟨rfl, rfl⟩ := hvv
      have hc := (h4 k ns[k] (by simp [hn])).1
      have hcr : wr.drew.cell? ⟨g, off + k, none⟩ = some (.int .i64 ns[k]) := (World.cell?_of_block (a := ⟨g, off + k, none⟩) (hbw.block g hg)).trans hc
      clear h4 hc
      go_wp2
      refine wp_region_T 14 (by kernel_rfl) (by kernel_rfl) (by kernel_rfl) ?_
      simp only [List.take_succ_cons, List.take_zero, List.drop_succ_cons, List.drop_zero]
      refine E_move (rho_base rfl rfl) ?_
      refine E_move (rho_base rfl rfl) ?_
      refine E_move (rho_base rfl rfl) ?_
      refine E_indexSl (rho_env rfl) (rho_env rfl) sl22 ⟨by omega, by omega, rfl⟩ ?_
      refine E_load (rho_env rfl) on3 hcr ?_
      refine E_convIW (rho_env rfl) Try.underlying3 Try.underlying24 ?_
      refine E_move (rho_base rfl rfl) ?_
      refine E_move (rho_base rfl rfl) ?_
      refine E_indexSl (rho_env rfl) (rho_env rfl) sl22 ⟨by omega, by omega, rfl⟩ ?_
      refine E_load (rho_env rfl) on3 hcr ?_
      refine E_shrI (rho_env rfl) rho_const ⟨by decide, by decide⟩ ?_
      refine E_convIW (rho_env rfl) Try.underlying3 Try.underlying24 ?_
      refine E_xorW (rho_env rfl) (rho_env rfl) ?_
      refine E_indexArr (rho_base rfl rfl) (rho_env rfl) ar25 ⟨by omega, by omega, rfl⟩ ?_
      refine E_nil ?_
      clear hcr
      have hbf := hB.drew.frozen
      have hcs : wr.drew.cell? ⟨w1.heap.size, k, none⟩ = s.vals[k]? := hB.drew.cell k
      have hvk : s.vals[k]? = some (s.vals[k]'(by simp [S8.vals]; omega)) := by simp
      have hcs' := hcs.trans hvk
      have HS := Lib.hid (S8.setw_vals s k h8)
      clear hcs hvk
      refine wpList_norm (rfl : setsL _ 0 _ = [_, _, _, _, _, _, _, _, _, _, _, _, _, _, _, _, _, _, _, _, _, _, _, _, _, _, _, _, _, _, _, _, _, _, _, _]) ?_
      simp only [Nat.zero_add, Int.toNat_natCast]
      go_wp2
      go_roundw
      case rel => exact ⟨k + 1, s.setw k _, by omega, by omega, by go_num, by rw [← HS.out]; exact hB.drew.set k _, hbr.drew.setCell (p := ⟨w1.heap.size, k, none⟩) (Nat.le_refl _) _⟩
      case measure => simp [intOf]; omega
    · have hend : ¬ ((k : Int) < 8) ∨ ((k : Int) < 8 ∧ ¬ ((k : Int) < (ns.length : Int))) := by omega
      clear hgo
      rcases hend with h8 | ⟨h8, hn⟩
      all_goals
        go_wp2
        have hx : ∀ {u u' : World}, ExtM wr.heap.size wr u → Below u.heap.size u u' → ExtM wr.heap.size u u' := fun h k => ExtM.of k h.below.size
        refine wp_region_VE (fun _ => true) (fun j => (lookL [.agg s.vals, .agg (mix s).vals, .agg s.vals, .agg s.vals, .bool true, .bool true] j).getD undef) (fun _ _ _ => True) (by kernel_rfl) (by kernel_rfl) (by kernel_rfl) (fun _ _ _ _ _ _ => trivial) fun x => ?_
        refine VE_ex (v := .agg s.vals) rfl rfl rfl (fun u hu hf => r_loadBlk (rho_base rfl rfl) (hB.ext hu.below) Try.underlying25 rfl (by kernel_rfl)) ?_
        refine VE_call (v := .agg (mix s).vals) (f := 16) (args := #[.agg s.vals]) rfl rfl rfl (fun u => r_call pf16 (map1 (rho_env rfl)) rfl) (fun u hu hf => ?_) ?_
        · refine (mix_any s u).mono ?_
          rintro _ u' ⟨rfl, hb⟩
          exact ⟨rfl, hx hu hb⟩
        refine VE_call (v := .agg s.vals) (f := 18) (args := #[.agg (mix s).vals]) rfl rfl rfl (fun u => r_call pf18 (map1 (rho_env rfl)) rfl) (fun u hu hf => ?_) ?_
        · refine (back_any s u).mono ?_
          rintro _ u' ⟨rfl, hb⟩
          exact ⟨rfl, hx hu hb⟩
        refine VE_ex (v := .agg s.vals) rfl rfl rfl (fun u hu hf => r_loadBlk (rho_base rfl rfl) (hB.ext hu.below) Try.underlying25 rfl (by kernel_rfl)) ?_
        refine VE_ex (v := .bool true) rfl rfl rfl (fun u hu hf => (r_eqlW arA25 (rho_env rfl) (rho_env rfl)).trans (by simp)) ?_
        refine VE_ex (v := .bool true) rfl rfl rfl (fun u hu hf => r_assign (rho_env rfl)) ?_
        refine VE_nil fun u hu hf => ?_
        rw [withEnv_norm (rfl : setsL _ 0 _ = [_, _, _, _, _, _, _, _, _, _, _, _, _, _, _, _, _, _, _, _, _, _, _, _, _, _, _, _, _, _, _, _, _, _, _, _])]
        have hbu := hbw.trans (hu.below.mono hbw.size)
        clear hB hbw hbr hx hf hu hb1
        go_wp2
        go_ret
        exact ⟨rfl, hbu⟩
end Go.Proofs.Ytbbpcgodjncflaa
