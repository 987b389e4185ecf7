/-
  A part of the proofs of this seat: laws of the walk, or contracts of the functions that the statements reach. No conditions but those that each theorem names.
-/
import Derived.Test.YthpjihiikkhcjaaM
import Derived.Test.YthpjihiikkhcjaaFacts
namespace Go.Proofs.Ythpjihiikkhcjaa
open Go.RowKit Go.Sp
theorem or_zero (o x y : UInt8) : o ||| x ^^^ y = 0 ↔ o = 0 ∧ x = y := by
  constructor
  · intro h
    have h' := congrArg UInt8.toBitVec h
    simp at h'
    refine ⟨UInt8.toBitVec_inj.1 ?_, UInt8.toBitVec_inj.1 ?_⟩
    · exact h'.1
    · exact h'.2
  · rintro ⟨rfl, rfl⟩; simp
set_option maxRecDepth 100000 in
set_option maxHeartbeats 2000000 in
theorem same_any (va vb : Value) (la lb : List UInt8) (w : World) (ha : Byt w va la) (hb : Byt w vb lb) (hl : la.length ≤ 549755813888) :
    Calls Try.prog 42 #[va, vb] w fun e w' => e = .returned (.bool (la == lb)) ∧ Below w.heap.size w w' := by
  have HA := Lib.hid ha
  have HB := Lib.hid hb
  obtain ⟨aa, ac, rfl, _, _⟩ := ha.len
  obtain ⟨ba, bc, rfl, _, hbm⟩ := hb.len
  unfold maxLen at hbm
  clear ha hb
  by_cases hne : la.length = lb.length
  · have hbne : ((la.length : Int) != (lb.length : Int)) = false := by simp [hne]
    have HNE := Lib.hid hne
    clear hne
    go_enter Try.func42, Try.ntmps42
    go_wp2
    go_loopw [14, 6, 5] (fun i _ o wr => ∃ (k : Nat) (c : UInt8), k ≤ la.length ∧ i = .int .i64 k ∧ o = B c ∧ (c = 0 ↔ la.take k = lb.take k) ∧ Below w.heap.size w wr) (fun i _ _ _ => (la.length - intOf i).toNat)
    case atStart => exact ⟨0, 0, by omega, rfl, rfl, by simp, Below.refl _ _⟩
    case round =>
      obtain ⟨k, c, hk, rfl, rfl, hc, hw⟩ := hrel
      by_cases hlt : k < la.length
      · have hltb : k < lb.length := by have := HNE.out; omega
        rcases HA.out with ⟨_, rfl⟩ | ⟨ga, oa, ca, hva, _, _, hga, h4a⟩
        · simp at hlt
        rcases HB.out with ⟨_, rfl⟩ | ⟨gb, ob, cb, hvb, _, _, hgb, h4b⟩
        · simp at hltb
        simp only [Value.slice.injEq, true_and] at hva hvb
        obtain ⟨rfl, rfl⟩ := hva
        obtain ⟨rfl, rfl⟩ := hvb
        have hca : wr.drew.cell? ⟨ga, oa + k, none⟩ = some (B la[k]) := (World.cell?_of_block (a := ⟨ga, oa + k, none⟩) (hw.block ga hga)).trans (h4a k _ (by simp [hlt]))
        have hcb : wr.drew.cell? ⟨gb, ob + k, none⟩ = some (B lb[k]) := (World.cell?_of_block (a := ⟨gb, ob + k, none⟩) (hw.block gb hgb)).trans (h4b k _ (by simp [hltb]))
        have hc' : c ||| la[k] ^^^ lb[k] = 0 ↔ la.take (k + 1) = lb.take (k + 1) := by
          rw [or_zero, hc, List.take_succ_eq_append_getElem hlt, List.take_succ_eq_append_getElem hltb]
          constructor
          · rintro ⟨h1, h2⟩; rw [h1, h2]
          · intro h
            have := List.append_inj h (by simp; omega)
            exact ⟨this.1, by simpa using this.2⟩
        have HC := Lib.hid hc'
        clear hc hc' h4a h4b
        have hki : (0 : Int) ≤ k ∧ (k : Int) < la.length := by omega
        have hkj : (0 : Int) ≤ k ∧ (k : Int) < lb.length := by omega
        go_wp2
        refine wp_region_T 11 (by kernel_rfl) (by kernel_rfl) (by kernel_rfl) ?_
        simp only [List.take_succ_cons, List.take_zero, List.drop_succ_cons, List.drop_zero]
        refine E_move (rho_base rfl rfl) ?_
        refine E_move (rho_base rfl rfl) ?_
        refine E_move (rho_base rfl rfl) ?_
        refine E_indexSl (rho_env rfl) (rho_env rfl) sl29 ⟨by omega, by omega, rfl⟩ ?_
        refine E_load (rho_env rfl) on5 (by first | exact (hca) | exact (hcb)) ?_
        refine E_move (rho_base rfl rfl) ?_
        refine E_move (rho_base rfl rfl) ?_
        refine E_indexSl (rho_env rfl) (rho_env rfl) sl29 ⟨by omega, by omega, rfl⟩ ?_
        refine E_load (rho_env rfl) on5 (by first | exact (hca) | exact (hcb)) ?_
        refine E_xorB (rho_env rfl) (rho_env rfl) ?_
        refine E_orB (rho_env rfl) (rho_env rfl) ?_
        refine E_nil ?_
        clear hca hcb
        refine wpList_norm (rfl : setsL _ 0 _ = [_, _, _, _, _, _, _, _, _, _, _, _, _, _, _, _, _, _, _, _, _, _, _, _, _, _, _, _, _, _, _]) ?_
        go_wp2
        go_roundw
        case rel => exact ⟨k + 1, _, by omega, by go_num, rfl, HC.out, hw.drew⟩
        case measure => simp [intOf]; omega
      · obtain rfl : k = la.length := by omega
        have hb0 : (Ub c == 0) = (la == lb) := by
          rw [List.take_length, HNE.out, List.take_length] at hc
          rw [Bool.eq_iff_iff, beq_iff_eq, beq_iff_eq, ← hc, ← Ub_inj c 0]; rfl
        have H0 := Lib.hid hb0
        clear hb0 hc
        go_wp2
        go_ret
        exact ⟨by rw [H0.out]; rfl, hw⟩
  · have hbne : ((la.length : Int) != (lb.length : Int)) = true := by simp; omega
    have hlab : (la == lb) = false := by simp; intro h; exact hne (by rw [h])
    have HLAB := Lib.hid hlab
    clear hne hlab
    go_enter Try.func42, Try.ntmps42
    go_wp2
    go_ret
    exact ⟨by rw [HLAB.out]; rfl, Below.refl _ _⟩
end Go.Proofs.Ythpjihiikkhcjaa
