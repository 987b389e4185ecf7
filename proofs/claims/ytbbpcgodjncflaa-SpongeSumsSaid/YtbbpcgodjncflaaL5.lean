/-
  A part of the proofs of this seat: laws of the walk, or contracts of the functions that the statements reach. No conditions but those that each theorem names.
-/
import Derived.Test.YtbbpcgodjncflaaWi
namespace Go.Proofs.Ytbbpcgodjncflaa
open Go.RowKit Go.Sp
set_option maxRecDepth 100000 in
set_option maxHeartbeats 2000000 in
theorem sums_main (kv bv cv : Value) (key bs : List UInt8) (cuts : List Int) (w : World) (hk : Byt w kv key) (hb : Byt w bv bs) (hc : Nums w cv cuts) (h1 : key.length ≤ 100) (h2 : bs.length ≤ 300) :
    Calls Try.prog 5 #[kv, bv, cv] w fun e w' => e = .returned (.bool true) ∧ Below w.heap.size w w' := by
  have HK := Lib.hid hk
  have HB := Lib.hid hb
  have HC := Lib.hid hc
  obtain ⟨ka, kc, rfl, hkc, hkm⟩ := hk.len
  obtain ⟨ba, bc, rfl, hbc, hbm⟩ := hb.len
  obtain ⟨ca, cc, rfl, hcc, hcm⟩ := hc.len
  unfold maxLen at hkm hbm hcm
  clear hk hb hc
  have h1' : ¬ ((100 : Int) < (key.length : Int)) := by omega
  have h2' : ¬ ((300 : Int) < (bs.length : Int)) := by omega
  go_enter Try.func5, Try.ntmps5
  go_wp2_with fail
  refine (known_any _).mono ?_
  rintro _ w1 ⟨rfl, hb1⟩
  go_wp2_with fail
  refine (new_any _ key _ (HK.out.ext hb1) (by omega)).mono ?_
  rintro _ w2 ⟨p, wv, rfl, hpw, hb2, hB2, hY2, hN2⟩
  have hbw2 := hb1.trans (hb2.mono hb1.size)
  have hpw' : w.heap.size ≤ p := by have := hb1.size; omega
  clear hb1 hb2 hpw
  go_wp2
  go_loopw [8, 9] (fun at_ i wr => ∃ (m k : Nat) (wv : Value), m ≤ bs.length ∧ k ≤ 20 ∧ k ≤ cuts.length ∧ at_ = .int .i64 m ∧ i = .int .i64 k ∧ Blk wr p ((absAll (keyS key) (bs.take m)).1.cells wv) 62 ∧ Byt wr wv (absAll (keyS key) (bs.take m)).2 ∧ wv.ownBlock ≠ some p ∧ Below w.heap.size w wr) (fun _ i _ => (20 - intOf i).toNat)
  case atStart => exact ⟨0, 0, wv, by omega, by omega, by omega, rfl, rfl, by rw [List.take_zero, absAll_lt (by simp)]; exact hB2, by rw [List.take_zero, absAll_lt (by simp)]; exact hY2, hN2, hbw2⟩
  case round =>
    obtain ⟨m, k, wv', hm, hk, hkc', rfl, rfl, hB, hY, hN, hbw⟩ := hrel
    clear hB2 hY2 hN2 hbw2
    have hw16 : (absAll (keyS key) (bs.take m)).2.length < 16 := by rw [absAll_waits]; omega
    by_cases hgo : k < cuts.length ∧ k < 20
    · obtain ⟨hn, h20⟩ := hgo
      have hn' : (k : Int) < (cuts.length : Int) := by omega
      have h20' : (k : Int) < 20 := by omega
      rcases HC.out with ⟨_, rfl⟩ | ⟨g, off, cap, hvv, _, _, hg, h4⟩
      · simp at hn
      simp only [Value.slice.injEq, true_and] at hvv
      obtain ⟨rfl, rfl⟩ := hvv
      obtain ⟨hcl, hlo, hhi⟩ := h4 k cuts[k] (by simp [hn])
      have hcr : wr.cell? ⟨g, off + k, none⟩ = some (.int .i64 cuts[k]) := (World.cell?_of_block (a := ⟨g, off + k, none⟩) (hbw.block g hg)).trans hcl
      clear h4 hcl
      generalize cuts[k] = cu at *
      go_wp2_with fail
      all_goals
        refine (within_nat cu _ ⟨hlo, hhi⟩ (by omega) (by omega) _).mono ?_
        rintro _ wx ⟨q, rfl, -, hql, rfl⟩
        have hqm : m + q ≤ bs.length := by omega
        clear hql
        go_wp2_with (refine (show wpList _ _ _ (⟨some 52, .slice 29 (.tmp 47) (some (.tmp 48)) (some (.tmp 51)) none, _, _, _, _⟩ :: _) _ _ from stop_here ?_))
        refine Stop.go (wpList_val rfl (r_slLH (lo := m) (hi := m + q) sl1_29 rfl rfl (by rw [Int.natCast_add]; rfl) (by omega) (by omega)) ?_)
        have hpc := (HB.out.ext hbw).cut m (m + q) (by omega) hqm
        have htp : bs.take m ++ (bs.take (m + q)).drop m = bs.take (m + q) := by
          have h0 := List.take_append_drop m (bs.take (m + q))
          rw [List.take_take, show min m (m + q) = m by omega] at h0
          exact h0
        have hpl : ((bs.take (m + q)).drop m).length ≤ 300 := by simp; omega
        have HPL := Lib.hid hpl
        have hab : absAll (absAll (keyS key) (bs.take m)).1 ((absAll (keyS key) (bs.take m)).2 ++ (bs.take (m + q)).drop m) = absAll (keyS key) (bs.take (m + q)) := by rw [← absAll_append, htp]
        have HAB := Lib.hid hab
        clear hpl htp hab hcr
        generalize cutV ba bc m (m + q) = pv at *
        go_wp2_with fail
        refine (write_any p _ wv' pv _ _ _ hB hY hpc (by have := HPL.out; omega)).mono ?_
        rintro _ w3 ⟨rfl, hO3, wv3, hB3, hY3, hN3, _⟩
        rw [HAB.out] at hB3 hY3
        have hbw3 := hbw.trans (hO3.below hpw' hbw.size)
        have hw3 : (absAll (keyS key) (bs.take (m + q))).2.length < 16 := by rw [absAll_waits]; omega
        clear hB hY hN hbw hO3 hpc hw16
        obtain ⟨L, hL⟩ : ∃ L, L = rawB key (bs.take (m + q)) := ⟨_, rfl⟩
        have hsum : sumB (absAll (keyS key) (bs.take (m + q))).1 (absAll (keyS key) (bs.take (m + q))).2 = L := by
          have := sumB_abs (keyS key) (bs.take (m + q)) []
          rw [List.append_nil, List.append_nil] at this
          rw [hL, rawB_eq]; exact this
        have hL16 : L.length = 16 := by rw [hL, rawB_length]
        have HS := Lib.hid hsum
        have HR := Lib.hid hL
        have HW3 := Lib.hid hw3
        have HL16 := Lib.hid hL16
        clear hsum hL hw3 hL16
        go_wp2
        have hM : (m : Int) + q = ((m + q : Nat) : Int) := by omega
        rw [hM]
        clear hM
        have hx : ∀ {u u' : World}, ExtM w3.heap.size w3 u → Below u.heap.size u u' → ExtM w3.heap.size u u' := fun h k => ExtM.of k h.below.size
        refine wp_region_VE (fun _ => true) (fun j => (lookL [.pointer (some ⟨p, 0, none⟩), .agg (L.map B).toArray, .slice ka key.length kc, .slice ba bs.length bc, .int .i64 ((m + q : Nat) : Int), cutV ba bc 0 (m + q), .agg (L.map B).toArray, .bool false] j).getD undef) (fun _ _ _ => True) (by kernel_rfl) (by kernel_rfl) (by kernel_rfl) (fun _ _ _ _ _ _ => trivial) fun x => ?_
        refine VE_ex (v := .pointer (some ⟨p, 0, none⟩)) rfl rfl rfl (fun u hu hf => r_move (rho_base rfl rfl)) ?_
        refine VE_call (v := .agg (L.map B).toArray) (f := 22) (args := #[.pointer (some ⟨p, 0, none⟩)]) rfl rfl rfl (fun u => r_call pf22 (map1 (rho_env rfl)) rfl) (fun u hu hf => ?_) ?_
        · refine (sum_any p _ wv3 _ u (hB3.ext hu.below) (hY3.extM hu) HW3.out).mono ?_
          rintro _ u' ⟨rfl, hb⟩
          exact ⟨by rw [HS.out], hx hu hb⟩
        refine VE_ex (v := .slice ka key.length kc) rfl rfl rfl (fun u hu hf => r_move (rho_base rfl rfl)) ?_
        refine VE_ex (v := .slice ba bs.length bc) rfl rfl rfl (fun u hu hf => r_move (rho_base rfl rfl)) ?_
        refine VE_ex (v := .int .i64 ((m + q : Nat) : Int)) rfl rfl rfl (fun u hu hf => r_move (rho_base rfl rfl)) ?_
        refine VE_ex (v := cutV ba bc 0 (m + q)) rfl rfl rfl (fun u hu hf => r_slH sl1_29 (rho_env rfl) (rho_env rfl) (by omega)) ?_
        refine VE_call (v := .agg (L.map B).toArray) (f := 23) (args := #[.slice ka key.length kc, cutV ba bc 0 (m + q)]) rfl rfl rfl (fun u => r_call pf23 (map2 (rho_env rfl) (rho_env rfl)) rfl) (fun u hu hf => ?_) ?_
        · refine (raw_any _ _ key (bs.take (m + q)) u ((HK.out.ext hbw3).extM hu) (((HB.out.ext hbw3).extM hu).cut 0 (m + q) (by omega) hqm) (by omega) (by simp; omega)).mono ?_
          rintro _ u' ⟨rfl, hb⟩
          exact ⟨by rw [HR.out], hx hu hb⟩
        refine VE_ex (v := .bool false) rfl rfl rfl (fun u hu hf => r_neq35 u (rho_env rfl) (rho_env rfl) HL16.out) ?_
        refine VE_nil fun u hu hf => ?_
        rw [withEnv_norm (rfl : setsL _ 0 _ = [_, _, _, _, _, _, _, _, _, _, _, _, _, _, _, _, _, _, _, _, _, _, _, _, _, _, _, _, _, _, _, _, _, _, _, _, _, _, _, _, _, _, _, _, _, _, _, _, _, _, _, _, _, _, _, _, _, _, _, _, _, _, _, _, _, _, _, _, _, _, _, _, _, _, _, _, _, _, _, _, _, _, _, _])]
        have hB4 := hB3.ext hu.below
        have hY4 := hY3.extM hu
        have hbw4 := hbw3.trans (hu.below.mono hbw3.size)
        clear hB3 hY3 hbw3 hx hf hu
        go_wp2
        go_roundw
        case rel => exact ⟨m + q, k + 1, wv3, by omega, by omega, by omega, rfl, by go_num, hB4, hY4, hN3, hbw4⟩
        case measure => simp [intOf]; omega
    · have hend : ¬ ((k : Int) < (cuts.length : Int)) ∨ ((k : Int) < (cuts.length : Int) ∧ ¬ ((k : Int) < 20)) := by omega
      clear hgo
      rcases hend with h8 | ⟨h8, hn⟩
      all_goals
        go_wp2_with (refine (show wpList _ _ _ (⟨some 68, .slice 29 (.tmp 66) (some (.tmp 67)) none none, _, _, _, _⟩ :: _) _ _ from stop_here ?_))
        refine Stop.go (wpList_val rfl (r_slL (lo := m) sl1_29 rfl rfl hm) ?_)
        have hpc := (HB.out.ext hbw).cut m bs.length hm (Nat.le_refl _)
        rw [List.take_length] at hpc
        have hpl : (bs.drop m).length ≤ 300 := by simp; omega
        have HPL := Lib.hid hpl
        have hab : absAll (absAll (keyS key) (bs.take m)).1 ((absAll (keyS key) (bs.take m)).2 ++ bs.drop m) = absAll (keyS key) bs := by rw [← absAll_append, List.take_append_drop]
        have HAB := Lib.hid hab
        clear hpl hab
        generalize cutV ba bc m bs.length = pv at *
        go_wp2_with fail
        refine (write_any p _ wv' pv _ _ _ hB hY hpc (by have := HPL.out; omega)).mono ?_
        rintro _ w3 ⟨rfl, hO3, wv3, hB3, hY3, hN3, _⟩
        rw [HAB.out] at hB3 hY3
        have hbw3 := hbw.trans (hO3.below hpw' hbw.size)
        have hw3 : (absAll (keyS key) bs).2.length < 16 := by rw [absAll_waits]; omega
        clear hB hY hN hbw hO3 hpc hw16
        obtain ⟨L, hL⟩ : ∃ L, L = rawB key bs := ⟨_, rfl⟩
        have hsum : sumB (absAll (keyS key) bs).1 (absAll (keyS key) bs).2 = L := by
          have := sumB_abs (keyS key) bs []
          rw [List.append_nil, List.append_nil] at this
          rw [hL, rawB_eq]; exact this
        have hL16 : L.length = 16 := by rw [hL, rawB_length]
        obtain ⟨OUT, hO⟩ : ∃ O, O = (L.map B).toArray := ⟨_, rfl⟩
        have heq : ∀ w, (binOp .eql 35 (.agg OUT) (.agg OUT)).run Try.prog w = .ok (.bool true) w := by rw [hO]; exact eq35 L hL16
        have hgd : ∀ x y w, (eqGuard .eql 35 x y (.agg OUT) (.agg OUT)).run Try.prog w = .ok () w := fun x y w => gd35 _ _ _ _ _ _
        have HS : Hid (((sumB (absAll (keyS key) bs).1 (absAll (keyS key) bs).2).map B).toArray = OUT) := Lib.hid (by rw [hsum, hO])
        have HR : Hid (((rawB key bs).map B).toArray = OUT) := Lib.hid (by rw [← hL, hO])
        have HW3 := Lib.hid hw3
        clear hsum hL hw3 hL16 hO
        clear L
        go_wp2_with fail
        refine (sum_any p _ wv3 _ _ hB3 hY3 HW3.out).mono ?_
        rintro _ w4 ⟨rfl, hb4⟩
        rw [HS.out]
        have hB4 := hB3.ext hb4
        have hY4 := hY3.ext hb4
        have hbw4 := hbw3.trans (hb4.mono hbw3.size)
        clear hB3 hY3 hbw3 hb4
        go_wp2_with fail
        refine (raw_any _ _ key bs _ (HK.out.ext hbw4) (HB.out.ext hbw4) (by omega) (by omega)).mono ?_
        rintro _ w5 ⟨rfl, hb5⟩
        rw [HR.out]
        have hB5 := hB4.ext hb5
        have hY5 := hY4.ext hb5
        have hbw5 := hbw4.trans (hb5.mono hbw4.size)
        clear hB4 hY4 hbw4 hb5
        go_wp2_with fail
        refine (sum_any p _ wv3 _ _ hB5 hY5 HW3.out).mono ?_
        rintro _ w6 ⟨rfl, hb6⟩
        rw [HS.out]
        have hbw6 := hbw5.trans (hb6.mono hbw5.size)
        clear hB5 hY5 hbw5 hb6
        go_wp2_with fail
        refine (raw_any _ _ key bs _ (HK.out.ext hbw6) (HB.out.ext hbw6) (by omega) (by omega)).mono ?_
        rintro _ w7 ⟨rfl, hb7⟩
        rw [HR.out]
        have hbw7 := hbw6.trans (hb7.mono hbw6.size)
        clear hbw6 hb7
        go_wp2
        go_ret
        exact ⟨rfl, hbw7⟩
set_option maxRecDepth 100000 in
set_option maxHeartbeats 2000000 in
theorem sums_any (kv : Value) (key : List UInt8) (bv : Value) (bs : List UInt8) (cv : Value) (cuts : List Int) (w : World) (hk : Byt w kv key) (hb : Byt w bv bs) (hc : Nums w cv cuts) :
    Calls Try.prog 5 #[kv, bv, cv] w fun e w' => e = .returned (.bool true) ∧ Below w.heap.size w w' := by
  by_cases h1 : key.length ≤ 100 ∧ bs.length ≤ 300
  · exact sums_main kv bv cv key bs cuts w hk hb hc h1.1 h1.2
  · obtain ⟨ka, kc, rfl, _, hkm⟩ := hk.len
    obtain ⟨ba, bc, rfl, _, hbm⟩ := hb.len
    obtain ⟨ca, cc, rfl, _, hcm⟩ := hc.len
    unfold maxLen at hkm hbm hcm
    clear hk hb hc
    have hh : ((100 : Int) < (key.length : Int)) ∨ (¬ ((100 : Int) < (key.length : Int)) ∧ ((300 : Int) < (bs.length : Int))) := by omega
    clear h1
    rcases hh with hh | ⟨hh, hh'⟩
    all_goals
      go_enter Try.func5, Try.ntmps5
      go_wp2_with fail
      refine (known_any _).mono ?_
      rintro _ w1 ⟨rfl, hb1⟩
      go_wp2
      go_ret
      exact ⟨rfl, hb1⟩
end Go.Proofs.Ytbbpcgodjncflaa
