/-
  A part of the proofs of this seat: laws of the walk, or contracts of the functions that the statements reach. No conditions but those that each theorem names.
-/
import Derived.Test.YthpjihiikkhcjaaGc
import Derived.Test.YthpjihiikkhcjaaGb
import Derived.Test.YthpjihiikkhcjaaGa
namespace Go.Proofs.Ythpjihiikkhcjaa
open Go.RowKit Go.Sp
set_option maxRecDepth 100000 in
set_option maxHeartbeats 2000000 in
theorem mac_any (kv v : Value) (key : List UInt8) (ls : List (List UInt8)) (w : World) (hk : Byt w kv key) (hL : Lst w v ls) (hkl : key.length ≤ 549755813888) (hls : ∀ l ∈ ls, l.length ≤ 549755813888) :
    Calls Try.prog 39 #[kv, v] w fun e w' => e = .returned (.agg ((macB key ls).map B).toArray) ∧ Below w.heap.size w w' := by
  have HLS := Lib.hid hls
  clear hls
  go_enter Try.func39, Try.ntmps39
  go_wp2_with fail
  refine (new_any kv key _ (hk.ext ((Below.refl _ _).alloc (Nat.le_refl _) _)) hkl).mono ?_
  rintro e w1 ⟨p, wv, rfl, hp1, hb1, hB1, hY1, hN1⟩
  simp only [World.size_alloc] at hp1
  have hR1 : Blk w1 w.heap.size ((List.replicate 16 (0 : UInt8)).map B).toArray 65 := (Blk.new w _ 65).ext hb1
  have hbw : Below w.heap.size w w1 := ((Below.refl _ _).alloc (Nat.le_refl _) _).trans (hb1.mono (by simp))
  have hL1 := hL
  clear hb1 hk hL
  go_wp2_with fail
  refine (put_any p _ wv v ls w w1 hB1 hY1 hN1 hL1 hbw (by omega) HLS.out).mono ?_
  rintro e w2 ⟨rfl, hO2⟩
  have hR2 := hR1.only hO2 (by omega)
  have hb2 : Below w.heap.size w w2 := hbw.trans (hO2.below (by omega) (by have := hbw.size; omega))
  have hsz16 : ((sumB (keyS key) (flat ls)).map B).toArray.size = 16 := by simp [sumB_length]
  have HSZ := Lib.hid hsz16
  have HONE := Lib.hid (bytes_one (sumB (keyS key) (flat ls)))
  have hOUT : ((macB key ls).map B).toArray = ((sumB (keyS key) (flat ls)).map B).toArray := rfl
  clear hsz16 hO2 hR1 hB1 hY1 hN1 hL1
  generalize ((sumB (keyS key) (flat ls)).map B).toArray = OUT at *
  have HOUT := Lib.hid hOUT
  clear hOUT
  go_wp2_with (refine (show wpList _ _ _ (⟨none, .store 65 (.tmp 4) (.tmp 8), _, _, _, _⟩ :: _) _ _ from stop_here ?_))
  refine Stop.go (wpList_store_blk rfl rfl rfl rfl hR2 (by rw [HSZ.out]; rfl) (by rw [HSZ.out]; kernel_rfl) HONE.out ?_)
  intro w3 hR3 hO3
  have hb3 : Below w.heap.size w w3 := hb2.trans (hO3.below (Nat.le_refl _) hb2.size)
  clear hO3 hR2 hb2
  go_wp2
  exact bodyPost_ret (results_cell_row rfl _ _ w.heap.size 65 OUT (0, 0) _ rfl hR3 Try.underlying65 rfl (by rw [HSZ.out]; kernel_rfl)) rfl ⟨by rw [HOUT.out], hb3⟩
end Go.Proofs.Ythpjihiikkhcjaa
namespace Go.Proofs.Ythpjihiikkhcjaa
open Go.RowKit Go.Sp
theorem or_zero (o x y : UInt8) : o ||| x ^^^ y = 0 ↔ o = 0 ∧ x = y := by
  constructor
  · intro h
    have h' := congrArg UInt8.toBitVec h
    simp at h'
    refine ⟨UInt8.toBitVec_inj.1 ?_, UInt8.toBitVec_inj.1 ?_⟩
    · exact h'.1
    · exact h'.2
  · rintro ⟨rfl, rfl⟩; simp
set_option maxRecDepth 100000 in
set_option maxHeartbeats 2000000 in
theorem same_any (va vb : Value) (la lb : List UInt8) (w : World) (ha : Byt w va la) (hb : Byt w vb lb) (hl : la.length ≤ 549755813888) :
    Calls Try.prog 42 #[va, vb] w fun e w' => e = .returned (.bool (la == lb)) ∧ Below w.heap.size w w' := by
  have HA := Lib.hid ha
  have HB := Lib.hid hb
  obtain ⟨aa, ac, rfl, _, _⟩ := ha.len
  obtain ⟨ba, bc, rfl, _, hbm⟩ := hb.len
  unfold maxLen at hbm
  clear ha hb
  by_cases hne : la.length = lb.length
  · have hbne : ((la.length : Int) != (lb.length : Int)) = false := by simp [hne]
    have HNE := Lib.hid hne
    clear hne
    go_enter Try.func42, Try.ntmps42
    go_wp2
    go_loopw [14, 6, 5] (fun i _ o wr => ∃ (k : Nat) (c : UInt8), k ≤ la.length ∧ i = .int .i64 k ∧ o = B c ∧ (c = 0 ↔ la.take k = lb.take k) ∧ Below w.heap.size w wr) (fun i _ _ _ => (la.length - intOf i).toNat)
    case atStart => exact ⟨0, 0, by omega, rfl, rfl, by simp, Below.refl _ _⟩
    case round =>
      obtain ⟨k, c, hk, rfl, rfl, hc, hw⟩ := hrel
      by_cases hlt : k < la.length
      · have hltb : k < lb.length := by have := HNE.out; omega
        rcases HA.out with ⟨_, rfl⟩ | ⟨ga, oa, ca, hva, _, _, hga, h4a⟩
        · simp at hlt
        rcases HB.out with ⟨_, rfl⟩ | ⟨gb, ob, cb, hvb, _, _, hgb, h4b⟩
        · simp at hltb
        simp only [Value.slice.injEq, true_and] at hva hvb
        obtain ⟨rfl, rfl⟩ := hva
        obtain ⟨rfl, rfl⟩ := hvb
        have hca : wr.drew.cell? ⟨ga, oa + k, none⟩ = some (B la[k]) := (World.cell?_of_block (a := ⟨ga, oa + k, none⟩) (hw.block ga hga)).trans (h4a k _ (by simp [hlt]))
        have hcb : wr.drew.cell? ⟨gb, ob + k, none⟩ = some (B lb[k]) := (World.cell?_of_block (a := ⟨gb, ob + k, none⟩) (hw.block gb hgb)).trans (h4b k _ (by simp [hltb]))
        have hc' : c ||| la[k] ^^^ lb[k] = 0 ↔ la.take (k + 1) = lb.take (k + 1) := by
          rw [or_zero, hc, List.take_succ_eq_append_getElem hlt, List.take_succ_eq_append_getElem hltb]
          constructor
          · rintro ⟨h1, h2⟩; rw [h1, h2]
          · intro h
            have := List.append_inj h (by simp; omega)
            exact ⟨this.1, by simpa using this.2⟩
        have HC := Lib.hid hc'
        clear hc hc' h4a h4b
        have hki : (0 : Int) ≤ k ∧ (k : Int) < la.length := by omega
        have hkj : (0 : Int) ≤ k ∧ (k : Int) < lb.length := by omega
        go_wp2
        refine wp_region_T 11 (by kernel_rfl) (by kernel_rfl) (by kernel_rfl) ?_
        simp only [List.take_succ_cons, List.take_zero, List.drop_succ_cons, List.drop_zero]
        refine E_move (rho_base rfl rfl) ?_
        refine E_move (rho_base rfl rfl) ?_
        refine E_move (rho_base rfl rfl) ?_
        refine E_indexSl (rho_env rfl) (rho_env rfl) sl29 ⟨by omega, by omega, rfl⟩ ?_
        refine E_load (rho_env rfl) on5 (by first | exact (hca) | exact (hcb)) ?_
        refine E_move (rho_base rfl rfl) ?_
        refine E_move (rho_base rfl rfl) ?_
        refine E_indexSl (rho_env rfl) (rho_env rfl) sl29 ⟨by omega, by omega, rfl⟩ ?_
        refine E_load (rho_env rfl) on5 (by first | exact (hca) | exact (hcb)) ?_
        refine E_xorB (rho_env rfl) (rho_env rfl) ?_
        refine E_orB (rho_env rfl) (rho_env rfl) ?_
        refine E_nil ?_
        clear hca hcb
        refine wpList_norm (rfl : setsL _ 0 _ = [_, _, _, _, _, _, _, _, _, _, _, _, _, _, _, _, _, _, _, _, _, _, _, _, _, _, _, _, _, _, _]) ?_
        go_wp2
        go_roundw
        case rel => exact ⟨k + 1, _, by omega, by go_num, rfl, HC.out, hw.drew⟩
        case measure => simp [intOf]; omega
      · obtain rfl : k = la.length := by omega
        have hb0 : (Ub c == 0) = (la == lb) := by
          rw [List.take_length, HNE.out, List.take_length] at hc
          rw [Bool.eq_iff_iff, beq_iff_eq, beq_iff_eq, ← hc, ← Ub_inj c 0]; rfl
        have H0 := Lib.hid hb0
        clear hb0 hc
        go_wp2
        go_ret
        exact ⟨by rw [H0.out]; rfl, hw⟩
  · have hbne : ((la.length : Int) != (lb.length : Int)) = true := by simp; omega
    have hlab : (la == lb) = false := by simp; intro h; exact hne (by rw [h])
    have HLAB := Lib.hid hlab
    clear hne hlab
    go_enter Try.func42, Try.ntmps42
    go_wp2
    go_ret
    exact ⟨by rw [HLAB.out]; rfl, Below.refl _ _⟩
end Go.Proofs.Ythpjihiikkhcjaa
namespace Go.Sp
theorem padBlk_done {l : List UInt8} (h : l.length % 16 = 0) : padBlk l = l := by
  unfold padBlk; rw [h]; simp
theorem padBlk_more {l : List UInt8} (h : l.length % 16 ≠ 0) : padBlk (l ++ [0]) = padBlk l := by
  unfold padBlk
  rw [List.append_assoc, List.length_append, List.length_singleton, List.singleton_append, ← List.replicate_succ]
  congr 2; omega
end Go.Sp
namespace Go.Proofs.Ythpjihiikkhcjaa
open Go.RowKit Go.Sp
set_option maxRecDepth 100000 in
set_option maxHeartbeats 2000000 in
theorem padded_any (v : Value) (l : List UInt8) (w : World) (hv : Byt w v l) (hl : l.length ≤ 8796093022208) :
    Calls Try.prog 62 #[v] w fun e w' => ∃ v', e = .returned v' ∧ Own 5 w.heap.size w' v' (padBlk l) ∧ Below w.heap.size w w' := by
  obtain ⟨a, c, rfl, _, _⟩ := hv.len
  go_enter Try.func62, Try.ntmps62
  go_wp2_with (at_builtin; refine stop_here ?_)
  refine Stop.go (wpList_append_byt rfl rfl byt29 (Own.lit 5 w.heap.size w [] (Nat.le_refl _) (by simp)) (hv.ext ((Below.refl _ _).alloc (Nat.le_refl _) _)) rfl rfl (by simp; omega) (by simp) ?_)
  intro v1 w1 ho1 hg1 _
  have hb1 : Below w.heap.size w w1 := ((Below.refl _ _).alloc (Nat.le_refl _) _).trans (toBelow hg1 (by simp) (by simp [Value.ownBlock]))
  rw [List.nil_append] at ho1
  clear hg1 hv
  go_wp2
  go_loopw [3] (fun b wr => ∃ l' : List UInt8, padBlk l' = padBlk l ∧ Own 5 w.heap.size wr b l' ∧ Below w.heap.size w wr) (fun b _ => match b with | .slice _ n _ => (16 - n % 16) % 16 | _ => 0)
  case atStart => exact ⟨l, rfl, ho1, hb1⟩
  case round =>
    obtain ⟨l', hp, ho, hb⟩ := hrel
    have hn : l'.length ≤ l.length + 15 := by have := congrArg List.length hp; simp [padBlk] at this; omega
    obtain ⟨a', c', rfl, _, _⟩ := ho.byt.len
    have hsz := hb.size
    clear ho1 hb1
    have HP := Lib.hid hp
    clear hp
    by_cases h0 : l'.length % 16 = 0
    · have hm : ¬ ((0 : Int) < (l'.length : Int) % 16) := by omega
      have H0 := Lib.hid h0
      clear h0
      go_wp2
      go_ret
      refine ⟨_, rfl, ?_, hb⟩
      rw [← HP.out, padBlk_done H0.out]; exact ho
    · have hm : (0 : Int) < (l'.length : Int) % 16 := by omega
      go_wp2_with (at_builtin; refine stop_here ?_)
      refine Stop.go (wpList_append_byt rfl rfl byt29 (ho.below ((Below.refl _ _).alloc (Nat.le_refl _) _)) (l := [0]) (Own.lit 5 wr.heap.size wr [0] (Nat.le_refl _) (by simp [maxLen])).byt rfl rfl (by simp; omega) (by simp; omega) ?_)
      intro v2 w2 ho2 hg2 _
      have hb2 : Below w.heap.size w w2 := (hb.alloc hsz _).trans (toBelow hg2 (by simp; omega) (fun g hgg => (ho.lt g hgg).1))
      have hpm := (padBlk_more h0).trans HP.out
      have HPM := Lib.hid hpm
      clear hpm hg2 ho hb
      have H0 := Lib.hid h0
      clear h0
      obtain ⟨a2, c2, rfl, _, _⟩ := ho2.byt.len
      go_wp2
      go_roundw
      case rel => exact ⟨l' ++ [0], HPM.out, by simpa using ho2, hb2⟩
      case measure => simp; omega
end Go.Proofs.Ythpjihiikkhcjaa
namespace Go.Proofs.Ythpjihiikkhcjaa
open Go.RowKit Go.Sp
set_option maxRecDepth 100000 in
set_option maxHeartbeats 2000000 in
theorem rmix_any (s : S8) (w : World) :
    Calls Try.prog 63 #[.agg #[W s.a, W s.b, W s.c, W s.d, W s.e, W s.f, W s.g, W s.h]] w fun e w' => e = .returned (.agg (mix s).vals) ∧ Below w.heap.size w w' := by
  go_enter Try.func63, Try.ntmps63
  go_wp2
  go_loopw [3] (fun r wr => ∃ k : Nat, k ≤ 8 ∧ r = .int .i64 ((k : Int) + 1) ∧ Blk wr w.heap.size (mixN s k).vals 25 ∧ Blk wr (w.heap.size + 1) S8.zero.vals 25 ∧ Below w.heap.size w wr) (fun r _ => (9 - intOf r).toNat)
  case atStart => exact ⟨0, by omega, rfl, (Blk.new w _ 25).alloc _, Blk.newAt (by simp) S8.zero.vals 25, ((Below.refl _ _).alloc (Nat.le_refl _) _).alloc (by simp) _⟩
  case round =>
    obtain ⟨k, hk, rfl, hB, hR, hb⟩ := hrel
    have hs : mixN s (k + 1) = mixStep (w32 ((k : Int) + 1)) (mixN s k) := rfl
    have HS := Lib.hid hs
    clear hs
    generalize hm : mixN s k = m at *
    have HM := Lib.hid hm
    clear hm
    obtain ⟨a, b, c, d, e, f, g, h⟩ := m
    have hbc := hB.cell
    have hbf := hB.frozen
    have hpl := hB.lt
    simp only [S8.vals] at hbc
    by_cases h8 : k < 8
    · have h9 : ((k : Int) + 1) ≤ 8 := by omega
      go_wp2_with fail
      have hB1 := hB.set 0 (W (a ^^^ w32 ((k : Int) + 1)))
      have hR1 := hR.setOther ⟨w.heap.size, 0, none⟩ (W (a ^^^ w32 ((k : Int) + 1))) (by simp)
      have hb1 := hb.setCell (p := ⟨w.heap.size, 0, none⟩) (Nat.le_refl _) (W (a ^^^ w32 ((k : Int) + 1)))
      clear hbc hbf hB hR hb
      refine (rquarter_1 ⟨a ^^^ w32 ((k : Int) + 1), b, c, d, e, f, g, h⟩ _).mono ?_
      rintro _ w1 ⟨rfl, h1⟩
      have hB2 := hB1.ext h1
      have hR2 := hR1.ext h1
      have hb2 := hb1.trans (Below.mono h1 (by have := hb1.size; simpa using this))
      clear hB1 hR1 hb1 h1
      obtain ⟨q1, hq1⟩ : ∃ q, q = quarter (a ^^^ w32 ((k : Int) + 1)) b c d := ⟨_, rfl⟩
      simp only [← hq1]
      have HQ1 := Lib.hid hq1
      clear hq1
      go_wp2_with fail
      refine (rquarter_2 ⟨q1.1, q1.2.1, q1.2.2.1, q1.2.2.2, e, f, g, h⟩ _).mono ?_
      rintro _ w2 ⟨rfl, h1⟩
      have hB1 := hB2.ext h1
      have hR1 := hR2.ext h1
      have hb1 := hb2.trans (Below.mono h1 hb2.size)
      clear hB2 hR2 hb2 h1
      obtain ⟨q2, hq2⟩ : ∃ q, q = quarter e f g h := ⟨_, rfl⟩
      simp only [← hq2]
      have HQ2 := Lib.hid hq2
      clear hq2
      go_wp2_with fail
      refine (rquarter_3 ⟨q1.1, q1.2.1, q1.2.2.1, q1.2.2.2, q2.1, q2.2.1, q2.2.2.1, q2.2.2.2⟩ _).mono ?_
      rintro _ w3 ⟨rfl, h1⟩
      have hB2 := hB1.ext h1
      have hR2 := hR1.ext h1
      have hb2 := hb1.trans (Below.mono h1 hb1.size)
      clear hB1 hR1 hb1 h1
      obtain ⟨q3, hq3⟩ : ∃ q, q = quarter q1.1 q2.2.1 q1.2.2.1 q2.2.2.2 := ⟨_, rfl⟩
      simp only [← hq3]
      have HQ3 := Lib.hid hq3
      clear hq3
      go_wp2_with fail
      refine (rquarter_4 ⟨q3.1, q1.2.1, q3.2.2.1, q1.2.2.2, q2.1, q3.2.1, q2.2.2.1, q3.2.2.2⟩ _).mono ?_
      rintro _ w4 ⟨rfl, h1⟩
      have hB1 := hB2.ext h1
      have hR1 := hR2.ext h1
      have hb1 := hb2.trans (Below.mono h1 hb2.size)
      clear hB2 hR2 hb2 h1
      obtain ⟨q4, hq4⟩ : ∃ q, q = quarter q2.1 q1.2.1 q2.2.2.1 q1.2.2.2 := ⟨_, rfl⟩
      simp only [← hq4]
      have HQ4 := Lib.hid hq4
      clear hq4
      go_wp2_with (refine (show wpList _ _ _ (⟨none, .store 25 (.tmp 1) (.tmp 18), _, _, _, _⟩ :: _) _ _ from stop_here ?_))
      refine Stop.go (wpList_store_blk (out := S8.vals ⟨q3.1, q4.2.1, q3.2.2.1, q4.2.2.2, q4.1, q3.2.1, q4.2.2.1, q3.2.2.2⟩) rfl rfl rfl rfl hB1 (by simp [S8.vals]) (by kernel_rfl) (vals_one _) ?_)
      intro w5 hB2 hO
      have hR2 := hR1.only hO (by omega)
      have hb2 := hb1.trans (hO.below (Nat.le_refl _) hb1.size)
      clear hB1 hR1 hb1 hO
      go_wp2
      go_roundw
      case rel =>
        refine ⟨k + 1, by omega, by go_num, ?_, hR2, hb2⟩
        rw [HS.out, mixStep]
        simp only [← HQ1.out, ← HQ2.out, ← HQ3.out, ← HQ4.out]
        exact hB2
      case measure => simp [intOf]; omega
    · have h9 : ¬ ((k : Int) + 1) ≤ 8 := by omega
      obtain rfl : k = 8 := by omega
      go_wp2_with (refine (show wpList _ _ _ (⟨none, .store 25 (.tmp 2) (.tmp 19), _, _, _, _⟩ :: _) _ _ from stop_here ?_))
      refine Stop.go (wpList_store_blk (out := S8.vals ⟨a, b, c, d, e, f, g, h⟩) rfl rfl rfl rfl hR (by simp [S8.vals]) (by kernel_rfl) (vals_one _) ?_)
      intro w5 hR2 hO
      have hb2 := hb.trans (hO.below (by omega) hb.size)
      clear hbc hbf hR hO hb hB
      go_wp2
      exact bodyPost_ret (results_cell_row rfl _ _ (w.heap.size + 1) 25 _ (0, 0) _ rfl hR2 Try.underlying25 rfl (by kernel_rfl)) rfl ⟨by rw [show mix s = _ from HM.out], hb2⟩
end Go.Proofs.Ythpjihiikkhcjaa
namespace Go.Proofs.Ythpjihiikkhcjaa
open Go.RowKit Go.Sp
/-- What the rounds have made of the words. -/
def takeV (s : S8) (b0 b1 b2 b3 b4 b5 b6 b7 b8 b9 b10 b11 b12 b13 b14 b15 : UInt8) : Nat → Array Value
  | 0 => #[W s.a, W s.b, W s.c, W s.d, W s.e, W s.f, W s.g, W s.h]
  | 1 => #[W (s.a ^^^ le b0 b1 b2 b3), W s.b, W s.c, W s.d, W s.e, W s.f, W s.g, W s.h]
  | 2 => #[W (s.a ^^^ le b0 b1 b2 b3), W (s.b ^^^ le b4 b5 b6 b7), W s.c, W s.d, W s.e, W s.f, W s.g, W s.h]
  | 3 => #[W (s.a ^^^ le b0 b1 b2 b3), W (s.b ^^^ le b4 b5 b6 b7), W (s.c ^^^ le b8 b9 b10 b11), W s.d, W s.e, W s.f, W s.g, W s.h]
  | _ => #[W (s.a ^^^ le b0 b1 b2 b3), W (s.b ^^^ le b4 b5 b6 b7), W (s.c ^^^ le b8 b9 b10 b11), W (s.d ^^^ le b12 b13 b14 b15), W s.e, W s.f, W s.g, W s.h]
theorem sixteen (l : List UInt8) (h : 16 ≤ l.length) : ∃ b0 b1 b2 b3 b4 b5 b6 b7 b8 b9 b10 b11 b12 b13 b14 b15 r, l = [b0, b1, b2, b3, b4, b5, b6, b7, b8, b9, b10, b11, b12, b13, b14, b15] ++ r := by
  rcases l with _ | ⟨b0, l⟩
  · simp at h
  rcases l with _ | ⟨b1, l⟩
  · simp at h
  rcases l with _ | ⟨b2, l⟩
  · simp at h
  rcases l with _ | ⟨b3, l⟩
  · simp at h
  rcases l with _ | ⟨b4, l⟩
  · simp at h
  rcases l with _ | ⟨b5, l⟩
  · simp at h
  rcases l with _ | ⟨b6, l⟩
  · simp at h
  rcases l with _ | ⟨b7, l⟩
  · simp at h
  rcases l with _ | ⟨b8, l⟩
  · simp at h
  rcases l with _ | ⟨b9, l⟩
  · simp at h
  rcases l with _ | ⟨b10, l⟩
  · simp at h
  rcases l with _ | ⟨b11, l⟩
  · simp at h
  rcases l with _ | ⟨b12, l⟩
  · simp at h
  rcases l with _ | ⟨b13, l⟩
  · simp at h
  rcases l with _ | ⟨b14, l⟩
  · simp at h
  rcases l with _ | ⟨b15, l⟩
  · simp at h
  exact ⟨b0, b1, b2, b3, b4, b5, b6, b7, b8, b9, b10, b11, b12, b13, b14, b15, l, rfl⟩
set_option maxRecDepth 100000 in
set_option maxHeartbeats 4000000 in
theorem raw_any (kv bv : Value) (key b : List UInt8) (w : World) (hk : Byt w kv key) (hb : Byt w bv b) (hkl : key.length ≤ 549755813888) (hbl : b.length ≤ 549755813888) :
    Calls Try.prog 55 #[kv, bv] w fun e w' => e = .returned (.agg ((rawB key b).map B).toArray) ∧ Below w.heap.size w w' := by
  have HK := Lib.hid hk
  have HB := Lib.hid hb
  obtain ⟨ka, kc, rfl, _, hkm⟩ := hk.len
  obtain ⟨ba, bc, rfl, _, hbm⟩ := hb.len
  clear hk hb
  go_enter Try.func55, Try.ntmps55
  go_wp2_with fail
  refine (eight_any _ _).mono ?_
  rintro _ w1 ⟨v1, rfl, ho1, hb1⟩
  have hR1 : Blk w1 w.heap.size ((List.replicate 16 (0 : UInt8)).map B).toArray 65 := (Blk.new w _ 65).ext hb1
  have hl1 : Below w.heap.size w w1 := ((Below.refl _ _).alloc (Nat.le_refl _) _).trans (hb1.mono (by simp))
  simp only [World.size_alloc] at ho1
  have hp1 := hR1.lt
  clear hb1
  go_wp2_with (at_builtin; refine stop_here ?_)
  refine Stop.go (wpList_append_byt rfl rfl byt29 ho1 (HK.out.ext hl1) rfl rfl (by rw [eight_length]; omega) (by omega) ?_)
  intro v2 w2 ho2 hg2 _
  have hl2 : Below (w.heap.size + 1) w1 w2 := toBelow hg2 (by omega) (fun g hg => (ho1.lt g hg).1)
  have hR2 := hR1.below hl2 (by omega)
  have hm2 := hl1.trans (hl2.mono (by omega))
  clear hR1 hl1 ho1 hg2 hl2 hp1
  go_wp2_with fail
  refine (padded_any v2 (eight key.length ++ key) w2 ho2.byt (by simp [eight_length]; omega)).mono ?_
  rintro _ w3 ⟨v3, rfl, ho3, hb3⟩
  have hR3 := hR2.ext hb3
  have hm3 := hm2.trans (hb3.mono hm2.size)
  have hp2 := hR2.lt
  clear ho2 hR2 hm2
  go_wp2_with (at_builtin; refine stop_here ?_)
  have hlP : (padBlk (eight key.length ++ key)).length ≤ key.length + 24 := by simp [padBlk, eight_length]; omega
  refine Stop.go (wpList_append_byt rfl rfl byt29 ho3 (HB.out.ext hm3) rfl rfl (by omega) hb3.size ?_)
  intro v4 w4 ho4 hg4 _
  have hl4 : Below w2.heap.size w3 w4 := toBelow hg4 hb3.size (fun g hg => (ho3.lt g hg).1)
  have hR4 := hR3.below hl4 (by omega)
  have hm4 := hm3.trans (hl4.mono (by omega))
  have hs4 := hl4.size
  have hs3 := hb3.size
  clear ho3 hg4 hl4 hR3 hm3 hb3
  go_wp2_with (at_builtin; refine stop_here ?_)
  refine Stop.go (wpList_append_byt rfl rfl byt29 (ho4.below ((Below.refl _ _).alloc (Nat.le_refl _) _)) (l := [128]) (Own.lit 5 w4.heap.size w4 [128] (Nat.le_refl _) (by simp [maxLen])).byt rfl rfl (by simp; omega) (by simp; omega) ?_)
  intro v5 w5 ho5 hg5 _
  have hl5 : Below w2.heap.size w4 w5 := (((Below.refl _ _).alloc (by omega) _)).trans (toBelow hg5 (by simp; omega) (fun g hg => (ho4.lt g hg).1))
  have hR5 := hR4.below hl5 (by omega)
  have hm5 := hm4.trans (hl5.mono (by omega))
  clear ho4 hg5 hl5 hR4 hm4
  go_wp2_with fail
  refine (padded_any v5 (padBlk (eight key.length ++ key) ++ b ++ [128]) w5 ho5.byt (by simp; omega)).mono ?_
  rintro _ w6 ⟨v6, rfl, ho6, hb6⟩
  have hR6 := hR5.ext hb6
  have hm6 := hm5.trans (hb6.mono hm5.size)
  have hs6 := hb6.size
  have hp5 := hR5.lt
  have hY6 := ho6.byt
  have hlt6 := hY6.lt'
  have HLT := Lib.hid hlt6
  have hLl : (padBlk (padBlk (eight key.length ++ key) ++ b ++ [128])).length ≤ key.length + b.length + 48 := by simp [padBlk, eight_length]; omega
  have hL0 := padBlk_length (padBlk (eight key.length ++ key) ++ b ++ [128])
  have hraw : rawB key b = outB (seal7 (absAll S8.zero (padBlk (padBlk (eight key.length ++ key) ++ b ++ [128]))).1) := rfl
  generalize padBlk (padBlk (eight key.length ++ key) ++ b ++ [128]) = L at *
  obtain ⟨va, vc, rfl, _, hvm⟩ := hY6.len
  unfold maxLen at hvm
  have HL0 := Lib.hid hL0
  have HRAW := Lib.hid hraw
  clear ho5 ho6 hR5 hm5 hb6 hraw hL0 hlt6 HK HB hlP hkm hbm
  go_wp2
  generalize hns' : w6.heap.size = ns at *
  have HNS := Lib.hid hns'
  clear hns'
  have hns : w.heap.size ≤ ns := by omega
  have hnn : w.heap.size ≠ ns := by omega
  have hvlt : ∀ k, (Value.slice va L.length vc).ownBlock = some k → k ≠ ns := fun k hk => by have := HLT.out k hk; have := HNS.out; omega
  have HVL := Lib.hid hvlt
  clear hvlt
  have hB7 : Blk (w6.alloc (.cells S8.zero.vals 25)) ns S8.zero.vals 25 := Blk.newAt HNS.out.symm _ _
  have hY7 : Byt (w6.alloc (.cells S8.zero.vals 25)) (.slice va L.length vc) L := hY6.ext ((Below.refl _ _).alloc (Nat.le_refl _) _)
  have hR7 : Blk (w6.alloc (.cells S8.zero.vals 25)) w.heap.size ((List.replicate 16 (0 : UInt8)).map B).toArray 65 := hR6.alloc _
  have hb7 : Below w.heap.size w (w6.alloc (.cells S8.zero.vals 25)) := hm6.alloc (by have := HNS.out; omega) _
  clear hR6 hm6 hY6 HLT hs6
  go_loopw [7, 8, 9] (fun i _ _ wr => ∃ (S : S8) (pre rest : List UInt8), L = pre ++ rest ∧ i = .int .i64 pre.length ∧ rest.length % 16 = 0 ∧ absAll S rest = absAll S8.zero L ∧ Blk wr ns S.vals 25 ∧ Byt wr (.slice va L.length vc) L ∧ Blk wr w.heap.size ((List.replicate 16 (0 : UInt8)).map B).toArray 65 ∧ Below w.heap.size w wr) (fun i _ _ _ => (L.length - intOf i).toNat)
  case atStart => exact ⟨S8.zero, [], L, rfl, rfl, HL0.out, rfl, hB7, hY7, hR7, hb7⟩
  case round =>
    obtain ⟨s, pre, rest, hL, rfl, hr0, hA, hB1, hY1, hR1, hb1⟩ := hrel
    clear hB7 hY7 hR7 hb7
    have hLlen : L.length = pre.length + rest.length := by rw [hL, List.length_append]
    have HL := Lib.hid hL
    have HA := Lib.hid hA
    clear hL hA
    obtain ⟨wo, rfl⟩ : ∃ wo : World, wo = wr := ⟨_, rfl⟩
    by_cases hre : rest.length = 0
    · have hge : ¬ ((pre.length : Int) < L.length) := by omega
      have hre' := List.eq_nil_of_length_eq_zero hre
      have HRE := Lib.hid hre'
      clear hLlen hre hre' hr0
      have hbc := hB1.cell
      have hbf := hB1.frozen
      have hpl := hB1.lt
      simp only [S8.vals] at hbc
      go_wp2_with fail
      have hB2 := hB1.set 7 (W (s.h ^^^ w32 1))
      have hR2 := hR1.setOther ⟨ns, 7, none⟩ (W (s.h ^^^ w32 1)) hnn
      have hb2 := hb1.setCell (p := ⟨ns, 7, none⟩) hns (W (s.h ^^^ w32 1))
      clear hbc hbf hB1 hR1 hb1 hY1
      refine (rmix_any ⟨s.a, s.b, s.c, s.d, s.e, s.f, s.g, s.h ^^^ w32 1⟩ _).mono ?_
      rintro _ w7 ⟨rfl, h7⟩
      have hB3 := hB2.ext h7
      have hR3 := hR2.ext h7
      have hb3 := hb2.trans (Below.mono h7 hb2.size)
      clear hB2 hR2 hb2 h7
      generalize hm : mix _ = m at *
      have HM := Lib.hid hm
      clear hm
      go_wp2_with (refine (show wpList _ _ _ (⟨none, .store 25 (.tmp 6) (.tmp 80), _, _, _, _⟩ :: _) _ _ from stop_here ?_))
      refine Stop.go (wpList_store_blk (out := m.vals) rfl rfl rfl rfl hB3 (by simp [S8.vals]) (by kernel_rfl) (vals_one _) ?_)
      intro w8 hB4 hO
      have hR4 := hR3.only hO hnn
      have hb4 := hb3.trans (hO.below hns hb3.size)
      have hpl8 := hB4.lt
      clear hB3 hR3 hb3 hO
      go_wp2
      have hz : (#[Value.int .u8 0, .int .u8 0, .int .u8 0, .int .u8 0, .int .u8 0, .int .u8 0, .int .u8 0, .int .u8 0, .int .u8 0, .int .u8 0, .int .u8 0, .int .u8 0, .int .u8 0, .int .u8 0, .int .u8 0, .int .u8 0] : Array Value) = fillA (fun i => B (outb m i)) (.int .u8 0) 16 0 := rfl
      rw [hz]
      clear hz
      go_loopw [11] (fun i wr => ∃ k : Nat, k ≤ 16 ∧ i = .int .i64 k ∧ wr = w8.alloc (.cells (fillA (fun i => B (outb m i)) (.int .u8 0) 16 k) 65)) (fun i _ => (16 - intOf i).toNat)
      case atStart => exact ⟨0, by omega, rfl, rfl⟩
      case round =>
        obtain ⟨k, hk, rfl, rfl⟩ := hrel
        by_cases h16 : k < 16
        · have hg := fillA_get (fun i => B (outb m i)) (.int .u8 0) 16 k k h16
          rw [if_neg (by omega)] at hg
          have hcw : w8.cell? ⟨ns, k / 4, none⟩ = some (W (m.word (k / 4))) := by
            rw [hB4.cell]
            have h4 : k / 4 = 0 ∨ k / 4 = 1 ∨ k / 4 = 2 ∨ k / 4 = 3 := by omega
            rcases h4 with h4 | h4 | h4 | h4 <;> rw [h4] <;> simp [S8.vals, S8.word]
          have hs0 : (0 : Int) ≤ 8 * ((k : Int) % 4) := by omega
          have hs1 : 8 * ((k : Int) % 4) ≤ 32 := by omega
          have hq0 : (0 : Int) ≤ (k : Int) / 4 := by omega
          have hq4 : (k : Int) / 4 < 4 := by omega
          go_wp2
          go_roundw
          case rel => exact ⟨k + 1, by omega, by go_num, by rw [← fillA_next]; rfl⟩
          case measure => simp [intOf]; omega
        · obtain rfl : k = 16 := by omega
          have hF : fillA (fun i => B (outb m i)) (.int .u8 0) 16 16 = ((outB m).map B).toArray := by
            rw [fillA_all _ _ _ _ (Nat.le_refl _)]; simp [outB, Function.comp_def]
          rw [hF]
          have hsz : ((outB m).map B).toArray.size = 16 := by simp [outB_length]
          have HSZ := Lib.hid hsz
          have HONE := Lib.hid (bytes_one (outB m))
          clear hF hsz
          generalize hOUT : ((outB m).map B).toArray = OUT at *
          have HOUT := Lib.hid hOUT
          clear hOUT
          go_wp2_with (refine (show wpList _ _ _ (⟨some 97, .load 65 (.tmp 10), _, _, _, _⟩ :: _) _ _ from stop_here ?_))
          refine Stop.go (wpList_load_row rfl 65 (.tmp 10) rfl w8.heap.size rfl 65 OUT (0, 0) _ (Blk.new w8 OUT 65) Try.underlying65 rfl (by rw [HSZ.out]; kernel_rfl) ?_)
          go_wp2_with (refine (show wpList _ _ _ (⟨none, .store 65 (.tmp 4) (.tmp 97), _, _, _, _⟩ :: _) _ _ from stop_here ?_))
          refine Stop.go (wpList_store_blk rfl rfl rfl rfl (hR4.alloc _) (by rw [HSZ.out]; rfl) (by rw [HSZ.out]; kernel_rfl) HONE.out ?_)
          intro w9 hR5 hO
          have hb5 := (hb4.alloc hb4.size (.cells OUT 65)).trans (hO.below (Nat.le_refl _) (by have := hb4.size; simp; omega))
          clear hO hR4 hb4 hB4
          go_wp2
          refine bodyPost_ret (results_cell_row rfl _ _ w.heap.size 65 OUT (0, 0) _ rfl hR5 Try.underlying65 rfl (by rw [HSZ.out]; kernel_rfl)) rfl ⟨?_, hb5⟩
          rw [← HOUT.out, ← HM.out, HRAW.out, seal7, ← HA.out, HRE.out, absAll_lt (by simp), show w32 1 = 1 from rfl]
    · obtain ⟨b0, b1, b2, b3, b4, b5, b6, b7, b8, b9, b10, b11, b12, b13, b14, b15, r, hr⟩ := sixteen rest (by omega)
      have HR := Lib.hid hr
      have hrl : rest.length = r.length + 16 := by rw [hr]; simp
      have hlt : (pre.length : Int) < L.length := by omega
      have hLge : pre.length + 16 ≤ L.length := by omega
      have hr16 : r.length % 16 = 0 := by omega
      have HLL := Lib.hid hLlen
      have HR16 := Lib.hid hr16
      clear hr hr16 hLlen hrl hr0 hre
      go_wp2
      go_loopw [8, 9] (fun j _ wi => ∃ k : Nat, k ≤ 4 ∧ j = .int .i64 k ∧ Blk wi ns (takeV s b0 b1 b2 b3 b4 b5 b6 b7 b8 b9 b10 b11 b12 b13 b14 b15 k) 25 ∧ Byt wi (.slice va L.length vc) L ∧ Blk wi w.heap.size ((List.replicate 16 (0 : UInt8)).map B).toArray 65 ∧ Below w.heap.size w wi) (fun j _ _ => (4 - intOf j).toNat)
      case atStart => exact ⟨0, by omega, rfl, hB1, hY1, hR1, hb1⟩
      case round =>
        obtain ⟨k, hk, rfl, hB2, hY2, hR2, hb2⟩ := hrel
        clear hB1 hY1 hR1 hb1
        obtain ⟨g, off, hvv, hgn, hd⟩ : ∃ g off, va = some ⟨g, off, none⟩ ∧ g ≠ ns ∧ ∀ c, c < 16 → wr.drew.cell? ⟨g, off + (pre.length + c), none⟩ = lookL [B b0, B b1, B b2, B b3, B b4, B b5, B b6, B b7, B b8, B b9, B b10, B b11, B b12, B b13, B b14, B b15] c := by
          rcases hY2 with ⟨hv, hl⟩ | ⟨g, off, cap, hv, _, _, _, h4⟩
          · rw [hl] at hLge; simp at hLge
          · simp only [Value.slice.injEq, true_and] at hv
            obtain ⟨rfl, rfl⟩ := hv
            refine ⟨g, off, rfl, HVL.out g rfl, fun c hc => ?_⟩
            have hgb : ∀ b, ([b0, b1, b2, b3, b4, b5, b6, b7, b8, b9, b10, b11, b12, b13, b14, b15] : List UInt8)[c]? = some b → wr.drew.cell? ⟨g, off + (pre.length + c), none⟩ = some (B b) := fun b hb => h4 _ _ (by
              rw [HL.out, HR.out, List.getElem?_append_right (by omega), Nat.add_sub_cancel_left, List.getElem?_append_left (by simpa using hc)]; exact hb)
            have h16 : c = 0 ∨ c = 1 ∨ c = 2 ∨ c = 3 ∨ c = 4 ∨ c = 5 ∨ c = 6 ∨ c = 7 ∨ c = 8 ∨ c = 9 ∨ c = 10 ∨ c = 11 ∨ c = 12 ∨ c = 13 ∨ c = 14 ∨ c = 15 := by omega
            rcases h16 with rfl | rfl | rfl | rfl | rfl | rfl | rfl | rfl | rfl | rfl | rfl | rfl | rfl | rfl | rfl | rfl <;> exact hgb _ rfl
        subst hvv
        have hk5 : k = 0 ∨ k = 1 ∨ k = 2 ∨ k = 3 ∨ k = 4 := by omega
        rcases hk5 with rfl | rfl | rfl | rfl | rfl
        · go_wp2
          refine wp_region_T 35 (by kernel_rfl) (by kernel_rfl) (by kernel_rfl) ?_
          simp only [List.take_succ_cons, List.take_zero, List.drop_succ_cons, List.drop_zero]
          have hcL := hB2.drew.cellL
          refine E_move (rho_base rfl rfl) ?_
          refine E_move (rho_base rfl rfl) ?_
          refine E_indexArr (rho_base rfl rfl) (rho_env rfl) ar25 ⟨by decide, by decide, rfl⟩ ?_
          refine E_load (rho_env rfl) on24 (by first | exact ((hcL _).trans rfl) | exact (Eq.trans (hd _ (by decide)) rfl)) ?_
          refine E_move (rho_base rfl rfl) ?_
          refine E_move (rho_base rfl rfl) ?_
          refine E_indexSl (rho_env rfl) (rho_env rfl) sl29 ⟨by omega, by omega, (by omega : off + (pre.length + 0) = _)⟩ ?_
          refine E_load (rho_env rfl) on5 (by first | exact ((hcL _).trans rfl) | exact (Eq.trans (hd _ (by decide)) rfl)) ?_
          refine E_convBW (rho_env rfl) Try.underlying5 Try.underlying24 ?_
          refine E_move (rho_base rfl rfl) ?_
          refine E_move (rho_base rfl rfl) ?_
          refine E_addI (rho_env rfl) rho_const ⟨rfl, by omega, by omega⟩ ?_
          refine E_indexSl (rho_env rfl) (rho_env rfl) sl29 ⟨by omega, by omega, (by omega : off + (pre.length + 1) = _)⟩ ?_
          refine E_load (rho_env rfl) on5 (by first | exact ((hcL _).trans rfl) | exact (Eq.trans (hd _ (by decide)) rfl)) ?_
          refine E_convBW (rho_env rfl) Try.underlying5 Try.underlying24 ?_
          refine E_shlW (rho_env rfl) rho_const ⟨by decide, by decide⟩ ?_
          refine E_orW (rho_env rfl) (rho_env rfl) ?_
          refine E_move (rho_base rfl rfl) ?_
          refine E_move (rho_base rfl rfl) ?_
          refine E_addI (rho_env rfl) rho_const ⟨rfl, by omega, by omega⟩ ?_
          refine E_indexSl (rho_env rfl) (rho_env rfl) sl29 ⟨by omega, by omega, (by omega : off + (pre.length + 2) = _)⟩ ?_
          refine E_load (rho_env rfl) on5 (by first | exact ((hcL _).trans rfl) | exact (Eq.trans (hd _ (by decide)) rfl)) ?_
          refine E_convBW (rho_env rfl) Try.underlying5 Try.underlying24 ?_
          refine E_shlW (rho_env rfl) rho_const ⟨by decide, by decide⟩ ?_
          refine E_orW (rho_env rfl) (rho_env rfl) ?_
          refine E_move (rho_base rfl rfl) ?_
          refine E_move (rho_base rfl rfl) ?_
          refine E_addI (rho_env rfl) rho_const ⟨rfl, by omega, by omega⟩ ?_
          refine E_indexSl (rho_env rfl) (rho_env rfl) sl29 ⟨by omega, by omega, (by omega : off + (pre.length + 3) = _)⟩ ?_
          refine E_load (rho_env rfl) on5 (by first | exact ((hcL _).trans rfl) | exact (Eq.trans (hd _ (by decide)) rfl)) ?_
          refine E_convBW (rho_env rfl) Try.underlying5 Try.underlying24 ?_
          refine E_shlW (rho_env rfl) rho_const ⟨by decide, by decide⟩ ?_
          refine E_orW (rho_env rfl) (rho_env rfl) ?_
          refine E_xorW (rho_env rfl) (rho_env rfl) ?_
          refine E_indexArr (rho_base rfl rfl) (rho_env rfl) ar25 ⟨by decide, by decide, rfl⟩ ?_
          refine E_nil ?_
          clear hcL hd
          have hbc := hB2.drew.cell
          have hbf := hB2.drew.frozen
          simp only [takeV] at hbc
          refine wpList_norm (rfl : setsL _ 0 _ = [_, _, _, _, _, _, _, _, _, _, _, _, _, _, _, _, _, _, _, _, _, _, _, _, _, _, _, _, _, _, _, _, _, _, _, _, _, _, _, _, _, _, _, _, _, _, _, _, _, _, _, _, _, _, _, _, _, _, _, _, _, _, _, _, _, _, _, _, _, _, _, _, _, _, _, _, _, _, _, _, _, _, _, _, _, _, _, _, _, _, _, _, _, _, _, _, _, _]) ?_
          go_wp2
          go_roundw
          case rel => exact ⟨1, by omega, rfl, hB2.drew.set 0 _, hY2.drew.only ((Only.refl ns _).set (.inl rfl) _) (by simpa [Value.ownBlock] using hgn), hR2.drew.setOther _ _ (by simpa using hnn), (hb2.drew).setCell (by simpa using hns) _⟩
          case measure => simp [intOf]
        · go_wp2
          refine wp_region_T 35 (by kernel_rfl) (by kernel_rfl) (by kernel_rfl) ?_
          simp only [List.take_succ_cons, List.take_zero, List.drop_succ_cons, List.drop_zero]
          have hcL := hB2.drew.cellL
          refine E_move (rho_base rfl rfl) ?_
          refine E_move (rho_base rfl rfl) ?_
          refine E_indexArr (rho_base rfl rfl) (rho_env rfl) ar25 ⟨by decide, by decide, rfl⟩ ?_
          refine E_load (rho_env rfl) on24 (by first | exact ((hcL _).trans rfl) | exact (Eq.trans (hd _ (by decide)) rfl)) ?_
          refine E_move (rho_base rfl rfl) ?_
          refine E_move (rho_base rfl rfl) ?_
          refine E_indexSl (rho_env rfl) (rho_env rfl) sl29 ⟨by omega, by omega, (by omega : off + (pre.length + 4) = _)⟩ ?_
          refine E_load (rho_env rfl) on5 (by first | exact ((hcL _).trans rfl) | exact (Eq.trans (hd _ (by decide)) rfl)) ?_
          refine E_convBW (rho_env rfl) Try.underlying5 Try.underlying24 ?_
          refine E_move (rho_base rfl rfl) ?_
          refine E_move (rho_base rfl rfl) ?_
          refine E_addI (rho_env rfl) rho_const ⟨rfl, by omega, by omega⟩ ?_
          refine E_indexSl (rho_env rfl) (rho_env rfl) sl29 ⟨by omega, by omega, (by omega : off + (pre.length + 5) = _)⟩ ?_
          refine E_load (rho_env rfl) on5 (by first | exact ((hcL _).trans rfl) | exact (Eq.trans (hd _ (by decide)) rfl)) ?_
          refine E_convBW (rho_env rfl) Try.underlying5 Try.underlying24 ?_
          refine E_shlW (rho_env rfl) rho_const ⟨by decide, by decide⟩ ?_
          refine E_orW (rho_env rfl) (rho_env rfl) ?_
          refine E_move (rho_base rfl rfl) ?_
          refine E_move (rho_base rfl rfl) ?_
          refine E_addI (rho_env rfl) rho_const ⟨rfl, by omega, by omega⟩ ?_
          refine E_indexSl (rho_env rfl) (rho_env rfl) sl29 ⟨by omega, by omega, (by omega : off + (pre.length + 6) = _)⟩ ?_
          refine E_load (rho_env rfl) on5 (by first | exact ((hcL _).trans rfl) | exact (Eq.trans (hd _ (by decide)) rfl)) ?_
          refine E_convBW (rho_env rfl) Try.underlying5 Try.underlying24 ?_
          refine E_shlW (rho_env rfl) rho_const ⟨by decide, by decide⟩ ?_
          refine E_orW (rho_env rfl) (rho_env rfl) ?_
          refine E_move (rho_base rfl rfl) ?_
          refine E_move (rho_base rfl rfl) ?_
          refine E_addI (rho_env rfl) rho_const ⟨rfl, by omega, by omega⟩ ?_
          refine E_indexSl (rho_env rfl) (rho_env rfl) sl29 ⟨by omega, by omega, (by omega : off + (pre.length + 7) = _)⟩ ?_
          refine E_load (rho_env rfl) on5 (by first | exact ((hcL _).trans rfl) | exact (Eq.trans (hd _ (by decide)) rfl)) ?_
          refine E_convBW (rho_env rfl) Try.underlying5 Try.underlying24 ?_
          refine E_shlW (rho_env rfl) rho_const ⟨by decide, by decide⟩ ?_
          refine E_orW (rho_env rfl) (rho_env rfl) ?_
          refine E_xorW (rho_env rfl) (rho_env rfl) ?_
          refine E_indexArr (rho_base rfl rfl) (rho_env rfl) ar25 ⟨by decide, by decide, rfl⟩ ?_
          refine E_nil ?_
          clear hcL hd
          have hbc := hB2.drew.cell
          have hbf := hB2.drew.frozen
          simp only [takeV] at hbc
          refine wpList_norm (rfl : setsL _ 0 _ = [_, _, _, _, _, _, _, _, _, _, _, _, _, _, _, _, _, _, _, _, _, _, _, _, _, _, _, _, _, _, _, _, _, _, _, _, _, _, _, _, _, _, _, _, _, _, _, _, _, _, _, _, _, _, _, _, _, _, _, _, _, _, _, _, _, _, _, _, _, _, _, _, _, _, _, _, _, _, _, _, _, _, _, _, _, _, _, _, _, _, _, _, _, _, _, _, _, _]) ?_
          go_wp2
          go_roundw
          case rel => exact ⟨2, by omega, rfl, hB2.drew.set 1 _, hY2.drew.only ((Only.refl ns _).set (.inl rfl) _) (by simpa [Value.ownBlock] using hgn), hR2.drew.setOther _ _ (by simpa using hnn), (hb2.drew).setCell (by simpa using hns) _⟩
          case measure => simp [intOf]
        · go_wp2
          refine wp_region_T 35 (by kernel_rfl) (by kernel_rfl) (by kernel_rfl) ?_
          simp only [List.take_succ_cons, List.take_zero, List.drop_succ_cons, List.drop_zero]
          have hcL := hB2.drew.cellL
          refine E_move (rho_base rfl rfl) ?_
          refine E_move (rho_base rfl rfl) ?_
          refine E_indexArr (rho_base rfl rfl) (rho_env rfl) ar25 ⟨by decide, by decide, rfl⟩ ?_
          refine E_load (rho_env rfl) on24 (by first | exact ((hcL _).trans rfl) | exact (Eq.trans (hd _ (by decide)) rfl)) ?_
          refine E_move (rho_base rfl rfl) ?_
          refine E_move (rho_base rfl rfl) ?_
          refine E_indexSl (rho_env rfl) (rho_env rfl) sl29 ⟨by omega, by omega, (by omega : off + (pre.length + 8) = _)⟩ ?_
          refine E_load (rho_env rfl) on5 (by first | exact ((hcL _).trans rfl) | exact (Eq.trans (hd _ (by decide)) rfl)) ?_
          refine E_convBW (rho_env rfl) Try.underlying5 Try.underlying24 ?_
          refine E_move (rho_base rfl rfl) ?_
          refine E_move (rho_base rfl rfl) ?_
          refine E_addI (rho_env rfl) rho_const ⟨rfl, by omega, by omega⟩ ?_
          refine E_indexSl (rho_env rfl) (rho_env rfl) sl29 ⟨by omega, by omega, (by omega : off + (pre.length + 9) = _)⟩ ?_
          refine E_load (rho_env rfl) on5 (by first | exact ((hcL _).trans rfl) | exact (Eq.trans (hd _ (by decide)) rfl)) ?_
          refine E_convBW (rho_env rfl) Try.underlying5 Try.underlying24 ?_
          refine E_shlW (rho_env rfl) rho_const ⟨by decide, by decide⟩ ?_
          refine E_orW (rho_env rfl) (rho_env rfl) ?_
          refine E_move (rho_base rfl rfl) ?_
          refine E_move (rho_base rfl rfl) ?_
          refine E_addI (rho_env rfl) rho_const ⟨rfl, by omega, by omega⟩ ?_
          refine E_indexSl (rho_env rfl) (rho_env rfl) sl29 ⟨by omega, by omega, (by omega : off + (pre.length + 10) = _)⟩ ?_
          refine E_load (rho_env rfl) on5 (by first | exact ((hcL _).trans rfl) | exact (Eq.trans (hd _ (by decide)) rfl)) ?_
          refine E_convBW (rho_env rfl) Try.underlying5 Try.underlying24 ?_
          refine E_shlW (rho_env rfl) rho_const ⟨by decide, by decide⟩ ?_
          refine E_orW (rho_env rfl) (rho_env rfl) ?_
          refine E_move (rho_base rfl rfl) ?_
          refine E_move (rho_base rfl rfl) ?_
          refine E_addI (rho_env rfl) rho_const ⟨rfl, by omega, by omega⟩ ?_
          refine E_indexSl (rho_env rfl) (rho_env rfl) sl29 ⟨by omega, by omega, (by omega : off + (pre.length + 11) = _)⟩ ?_
          refine E_load (rho_env rfl) on5 (by first | exact ((hcL _).trans rfl) | exact (Eq.trans (hd _ (by decide)) rfl)) ?_
          refine E_convBW (rho_env rfl) Try.underlying5 Try.underlying24 ?_
          refine E_shlW (rho_env rfl) rho_const ⟨by decide, by decide⟩ ?_
          refine E_orW (rho_env rfl) (rho_env rfl) ?_
          refine E_xorW (rho_env rfl) (rho_env rfl) ?_
          refine E_indexArr (rho_base rfl rfl) (rho_env rfl) ar25 ⟨by decide, by decide, rfl⟩ ?_
          refine E_nil ?_
          clear hcL hd
          have hbc := hB2.drew.cell
          have hbf := hB2.drew.frozen
          simp only [takeV] at hbc
          refine wpList_norm (rfl : setsL _ 0 _ = [_, _, _, _, _, _, _, _, _, _, _, _, _, _, _, _, _, _, _, _, _, _, _, _, _, _, _, _, _, _, _, _, _, _, _, _, _, _, _, _, _, _, _, _, _, _, _, _, _, _, _, _, _, _, _, _, _, _, _, _, _, _, _, _, _, _, _, _, _, _, _, _, _, _, _, _, _, _, _, _, _, _, _, _, _, _, _, _, _, _, _, _, _, _, _, _, _, _]) ?_
          go_wp2
          go_roundw
          case rel => exact ⟨3, by omega, rfl, hB2.drew.set 2 _, hY2.drew.only ((Only.refl ns _).set (.inl rfl) _) (by simpa [Value.ownBlock] using hgn), hR2.drew.setOther _ _ (by simpa using hnn), (hb2.drew).setCell (by simpa using hns) _⟩
          case measure => simp [intOf]
        · go_wp2
          refine wp_region_T 35 (by kernel_rfl) (by kernel_rfl) (by kernel_rfl) ?_
          simp only [List.take_succ_cons, List.take_zero, List.drop_succ_cons, List.drop_zero]
          have hcL := hB2.drew.cellL
          refine E_move (rho_base rfl rfl) ?_
          refine E_move (rho_base rfl rfl) ?_
          refine E_indexArr (rho_base rfl rfl) (rho_env rfl) ar25 ⟨by decide, by decide, rfl⟩ ?_
          refine E_load (rho_env rfl) on24 (by first | exact ((hcL _).trans rfl) | exact (Eq.trans (hd _ (by decide)) rfl)) ?_
          refine E_move (rho_base rfl rfl) ?_
          refine E_move (rho_base rfl rfl) ?_
          refine E_indexSl (rho_env rfl) (rho_env rfl) sl29 ⟨by omega, by omega, (by omega : off + (pre.length + 12) = _)⟩ ?_
          refine E_load (rho_env rfl) on5 (by first | exact ((hcL _).trans rfl) | exact (Eq.trans (hd _ (by decide)) rfl)) ?_
          refine E_convBW (rho_env rfl) Try.underlying5 Try.underlying24 ?_
          refine E_move (rho_base rfl rfl) ?_
          refine E_move (rho_base rfl rfl) ?_
          refine E_addI (rho_env rfl) rho_const ⟨rfl, by omega, by omega⟩ ?_
          refine E_indexSl (rho_env rfl) (rho_env rfl) sl29 ⟨by omega, by omega, (by omega : off + (pre.length + 13) = _)⟩ ?_
          refine E_load (rho_env rfl) on5 (by first | exact ((hcL _).trans rfl) | exact (Eq.trans (hd _ (by decide)) rfl)) ?_
          refine E_convBW (rho_env rfl) Try.underlying5 Try.underlying24 ?_
          refine E_shlW (rho_env rfl) rho_const ⟨by decide, by decide⟩ ?_
          refine E_orW (rho_env rfl) (rho_env rfl) ?_
          refine E_move (rho_base rfl rfl) ?_
          refine E_move (rho_base rfl rfl) ?_
          refine E_addI (rho_env rfl) rho_const ⟨rfl, by omega, by omega⟩ ?_
          refine E_indexSl (rho_env rfl) (rho_env rfl) sl29 ⟨by omega, by omega, (by omega : off + (pre.length + 14) = _)⟩ ?_
          refine E_load (rho_env rfl) on5 (by first | exact ((hcL _).trans rfl) | exact (Eq.trans (hd _ (by decide)) rfl)) ?_
          refine E_convBW (rho_env rfl) Try.underlying5 Try.underlying24 ?_
          refine E_shlW (rho_env rfl) rho_const ⟨by decide, by decide⟩ ?_
          refine E_orW (rho_env rfl) (rho_env rfl) ?_
          refine E_move (rho_base rfl rfl) ?_
          refine E_move (rho_base rfl rfl) ?_
          refine E_addI (rho_env rfl) rho_const ⟨rfl, by omega, by omega⟩ ?_
          refine E_indexSl (rho_env rfl) (rho_env rfl) sl29 ⟨by omega, by omega, (by omega : off + (pre.length + 15) = _)⟩ ?_
          refine E_load (rho_env rfl) on5 (by first | exact ((hcL _).trans rfl) | exact (Eq.trans (hd _ (by decide)) rfl)) ?_
          refine E_convBW (rho_env rfl) Try.underlying5 Try.underlying24 ?_
          refine E_shlW (rho_env rfl) rho_const ⟨by decide, by decide⟩ ?_
          refine E_orW (rho_env rfl) (rho_env rfl) ?_
          refine E_xorW (rho_env rfl) (rho_env rfl) ?_
          refine E_indexArr (rho_base rfl rfl) (rho_env rfl) ar25 ⟨by decide, by decide, rfl⟩ ?_
          refine E_nil ?_
          clear hcL hd
          have hbc := hB2.drew.cell
          have hbf := hB2.drew.frozen
          simp only [takeV] at hbc
          refine wpList_norm (rfl : setsL _ 0 _ = [_, _, _, _, _, _, _, _, _, _, _, _, _, _, _, _, _, _, _, _, _, _, _, _, _, _, _, _, _, _, _, _, _, _, _, _, _, _, _, _, _, _, _, _, _, _, _, _, _, _, _, _, _, _, _, _, _, _, _, _, _, _, _, _, _, _, _, _, _, _, _, _, _, _, _, _, _, _, _, _, _, _, _, _, _, _, _, _, _, _, _, _, _, _, _, _, _, _]) ?_
          go_wp2
          go_roundw
          case rel => exact ⟨4, by omega, rfl, hB2.drew.set 3 _, hY2.drew.only ((Only.refl ns _).set (.inl rfl) _) (by simpa [Value.ownBlock] using hgn), hR2.drew.setOther _ _ (by simpa using hnn), (hb2.drew).setCell (by simpa using hns) _⟩
          case measure => simp [intOf]
        · clear hd
          have hbc := hB2.cell
          have hpl := hB2.lt
          simp only [takeV] at hbc
          go_wp2_with fail
          refine (rmix_any ⟨s.a ^^^ le b0 b1 b2 b3, s.b ^^^ le b4 b5 b6 b7, s.c ^^^ le b8 b9 b10 b11, s.d ^^^ le b12 b13 b14 b15, s.e, s.f, s.g, s.h⟩ _).mono ?_
          rintro _ w7 ⟨rfl, h7⟩
          have hB3 := hB2.ext h7
          have hR3 := hR2.ext h7
          have hY3 := hY2.ext h7
          have hb3 := hb2.trans (Below.mono h7 hb2.size)
          clear hB2 hR2 hb2 h7 hbc hY2
          generalize hm : mix _ = m at *
          have HM := Lib.hid hm
          clear hm
          go_wp2_with (refine (show wpList _ _ _ (⟨none, .store 25 (.tmp 6) (.tmp 74), _, _, _, _⟩ :: _) _ _ from stop_here ?_))
          refine Stop.go (wpList_store_blk (out := m.vals) rfl rfl rfl rfl hB3 rfl (by kernel_rfl) (vals_one _) ?_)
          intro w8 hB4 hO
          have hR4 := hR3.only hO hnn
          have hb4 := hb3.trans (hO.below hns hb3.size)
          have hY4 := hY3.only hO (by simpa [Value.ownBlock] using hgn)
          clear hB3 hR3 hb3 hO hY3
          go_wp2
          go_roundw
          case rel =>
            refine ⟨m, pre ++ [b0, b1, b2, b3, b4, b5, b6, b7, b8, b9, b10, b11, b12, b13, b14, b15], r, by rw [HL.out, HR.out, List.append_assoc], congrArg (Value.int .i64) (by rw [List.length_append]; simp), HR16.out, ?_, hB4, hY4, hR4, hb4⟩
            rw [← HA.out, HR.out, absAll_ge (s := s) (by simp), ← HM.out]
            rfl
          case measure => simp [intOf]; omega
end Go.Proofs.Ythpjihiikkhcjaa
namespace Go.Sp
open Go.RowKit
/-- The value operations whose effects are ordered among themselves: each waits for the one before. -/
def okH (ops : Array Oper) (hd : Nat → Bool) : Bool :=
  okV ops && (List.range ops.size).all fun i => match ops[i]? with
    | none => true
    | some o => o.guard.isNone && (hd i || match (List.range i).reverse.find? (fun j => !hd j) with
      | none => true
      | some p => edgeOn o p)
def tvl (hd : Nat → Bool) (x : Nat → Value) : List Oper → Nat → List Value
  | [], _ => []
  | _ :: r, i => if hd i then tvl hd x r (i + 1) else x i :: tvl hd x r (i + 1)
/-- The readers (hd) have their values in any world that comes; the others go in the text's order. -/
def stepsH (P : Program) (hd : Nat → Bool) (xh : Nat → Value) (Sc : World → Prop) (S : List Value → World → Prop) (fin : Act → World → Prop) : List Oper → Nat → Act → List Value → Prop
  | [], _, a, vs => ∀ u, S vs u → fin a u
  | o :: rest, i, a, vs =>
    if hd i then (∀ u, Sc u → (execOp a.eval o).run P u = .ok (.value (xh i)) u) ∧ stepsH P hd xh Sc S fin rest (i + 1) (a.put o.dst (xh i)) vs
    else (∀ u, S vs u → Gives P (fun v u' => S (vs ++ [v]) u') ((execOp a.eval o).run P u)) ∧ ∀ v, stepsH P hd xh Sc S fin rest (i + 1) (a.put o.dst v) (vs ++ [v])
section
variable {P : Program} {ops : Array Oper} {hd : Nat → Bool} {xh : Nat → Value} {Sc : World → Prop} {S : List Value → World → Prop} {fin : Act → World → Prop}
theorem stepsH_split {x : Nat → Value} (hx : ∀ j, hd j = true → x j = xh j) : ∀ (l : List Oper) (k : Nat) (a : Act) (vs : List Value), stepsH P hd xh Sc S fin l k a vs →
    (∀ (j : Nat) (o : Oper), l[j]? = some o →
      if hd (k + j) then ∀ u, Sc u → (execOp (putsV x (l.take j) k a).eval o).run P u = .ok (.value (xh (k + j))) u
      else ∀ u, S (vs ++ tvl hd x (l.take j) k) u → Gives P (fun v u' => S (vs ++ tvl hd x (l.take j) k ++ [v]) u') ((execOp (putsV x (l.take j) k a).eval o).run P u)) ∧
    (∀ u, S (vs ++ tvl hd x l k) u → fin (putsV x l k a) u)
  | [], k, a, vs, h => ⟨fun j o h => by simp at h, by simpa [tvl, putsV, stepsH] using h⟩
  | p :: l, k, a, vs, h => by
    unfold stepsH at h
    by_cases hk : hd k = true
    · rw [if_pos hk] at h
      obtain ⟨h1, h2⟩ := h
      rw [← hx k hk] at h2
      obtain ⟨h3, h4⟩ := stepsH_split hx l (k + 1) _ _ h2
      refine ⟨fun j o hj => ?_, ?_⟩
      · cases j with
        | zero => simp at hj; subst hj; rw [Nat.add_zero, if_pos hk]; exact h1
        | succ j =>
          have := h3 j o (by simpa using hj)
          rw [show k + 1 + j = k + (j + 1) by omega] at this
          simpa [tvl, hk, putsV] using this
      · simpa [tvl, hk, putsV] using h4
    · rw [if_neg hk] at h
      obtain ⟨h1, h2⟩ := h
      obtain ⟨h3, h4⟩ := stepsH_split hx l (k + 1) _ _ (h2 (x k))
      refine ⟨fun j o hj => ?_, ?_⟩
      · cases j with
        | zero => simp at hj; subst hj; rw [Nat.add_zero, if_neg hk]; simpa [tvl, putsV] using h1
        | succ j =>
          have := h3 j o (by simpa using hj)
          rw [show k + 1 + j = k + (j + 1) by omega] at this
          simpa [tvl, hk, putsV, List.append_assoc] using this
      · simpa [tvl, hk, putsV, List.append_assoc] using h4
theorem tvl_skip {x : Nat → Value} : ∀ (l : List Oper) (k n i : Nat), n ≤ i → (∀ j, k + n ≤ j → j < k + i → hd j = true) → tvl hd x (l.take i) k = tvl hd x (l.take n) k
  | [], _, _, _, _, _ => by simp
  | p :: l, k, n, i, hn, h => by
    cases i with
    | zero => obtain rfl : n = 0 := by omega
              rfl
    | succ i =>
      cases n with
      | zero =>
        have hk := h k (by omega) (by omega)
        have := tvl_skip l (k + 1) 0 i (by omega) (fun j h1 h2 => h j (by omega) (by omega)) (x := x)
        simpa [tvl, hk] using this
      | succ n =>
        have := tvl_skip l (k + 1) n i (by omega) (fun j h1 h2 => h j (by omega) (by omega)) (x := x)
        simp only [List.take_succ_cons, tvl, this]
theorem tvl_snoc {x : Nat → Value} : ∀ (l : List Oper) (k i : Nat) (o : Oper), l[i]? = some o → hd (k + i) = false → tvl hd x (l.take (i + 1)) k = tvl hd x (l.take i) k ++ [x (k + i)]
  | [], _, _, _, h, _ => by simp at h
  | p :: l, k, 0, o, _, hh => by
    have : hd k = false := by simpa using hh
    simp [tvl, this]
  | p :: l, k, i + 1, o, h, hh => by
    have := tvl_snoc l (k + 1) i o (by simpa using h) (by rw [show k + 1 + i = k + (i + 1) by omega]; exact hh) (x := x)
    rw [show k + 1 + i = k + (i + 1) by omega] at this
    rw [List.take_succ_cons, List.take_succ_cons, tvl, this, tvl]
    split <;> simp
theorem tvl_congr {x y : Nat → Value} : ∀ (l : List Oper) (k : Nat), (∀ j, k ≤ j → j < k + l.length → x j = y j) → tvl hd x l k = tvl hd y l k
  | [], _, _ => rfl
  | p :: l, k, h => by
    rw [tvl, tvl, tvl_congr l (k + 1) (fun j h1 h2 => h j (by omega) (by simp; omega)), h k (by omega) (by simp)]
theorem okH_spec (h : okH ops hd = true) : okV ops = true ∧ ∀ (i : Nat) (o : Oper), ops[i]? = some o → o.guard = none ∧ (hd i = false → ∀ j, j < i → hd j = false → ∃ p, j ≤ p ∧ p < i ∧ hd p = false ∧ edgeOn o p = true ∧ ∀ q, p < q → q < i → hd q = true) := by
  simp only [okH, Bool.and_eq_true, List.all_eq_true, List.mem_range] at h
  refine ⟨h.1, fun i o ho => ?_⟩
  have hi : i < ops.size := (Array.getElem?_eq_some_iff.1 ho).1
  have h2 := h.2 i hi
  simp only [ho, Bool.and_eq_true, Bool.or_eq_true] at h2
  refine ⟨by simpa using h2.1, fun hf j hj hjf => ?_⟩
  have h3 := h2.2.resolve_left (by simp [hf])
  have hmax : ∀ (n : Nat), j < n → ∃ p, (List.range n).reverse.find? (fun j => !hd j) = some p ∧ j ≤ p ∧ p < n ∧ hd p = false ∧ ∀ q, p < q → q < n → hd q = true := by
    intro n
    induction n with
    | zero => intro h; omega
    | succ n ih =>
      intro h
      rw [List.range_succ, List.reverse_append]
      simp only [List.reverse_cons, List.reverse_nil, List.nil_append, List.singleton_append, List.find?_cons]
      cases hn : hd n with
      | false => exact ⟨n, by simp, by omega, by omega, hn, fun q h1 h2 => by omega⟩
      | true =>
        have hjn : j < n := by
          rcases Nat.lt_succ_iff_lt_or_eq.1 h with h | rfl
          · exact h
          · rw [hjf] at hn; cases hn
        obtain ⟨p, h4, h5, h6, h7, h8⟩ := ih hjn
        refine ⟨p, by simpa using h4, h5, by omega, h7, fun q h1 h2 => ?_⟩
        rcases Nat.lt_succ_iff_lt_or_eq.1 h2 with h | rfl
        · exact h8 q h1 h
        · exact hn
  obtain ⟨p, h4, h5, h6, h7, h8⟩ := hmax i hj
  rw [h4] at h3
  exact ⟨p, h5, h6, h7, h3, h8⟩
end
section
variable {P : Program} {ops : Array Oper} {hd : Nat → Bool} {xh : Nat → Value} {Sc : World → Prop} {S : List Value → World → Prop} {Q : Exit → Act → World → Prop} {a : Act} {w : World}
theorem any_of_stepsH (hok : okH ops hd = true) (hS : ∀ vs u, S vs u → Sc u)
    (h : stepsH P hd xh Sc S (fun a' w' => Q .normal a' w') ops.toList 0 a []) :
    ∀ (fuel : Nat) (listed : Array Bool) (x : Nat → Value) (a1 : Act) (w1 : World), InvV ops (fun _ _ => True) w (fun _ _ _ => True) a listed x a1 w1 →
      (∀ j, hd j = true → x j = xh j) → (∃ n, (∀ j, j < ops.size → hd j = false → (listed.getD j false = true ↔ j < n)) ∧ n ≤ ops.size ∧ S (tvl hd x (ops.toList.take n) 0) w1) →
      (List.range ops.size).countP (fun i => !listed.getD i true) ≤ fuel → wpAny P .any ops Q fuel listed a1 w1 := by
  obtain ⟨hokV, hH⟩ := okH_spec hok
  obtain ⟨hsel, hspec⟩ := okV_spec hokV
  have key : ∀ (listed : Array Bool), listed.size = ops.size → Region.ready .any ops listed = [] → ∀ j, j < ops.size → listed.getD j false = true := by
    intro listed hs hr j
    induction j using Nat.strongRecOn with
    | _ j ih =>
      intro hj
      cases hc : listed.getD j false with
      | true => rfl
      | false =>
        have : j ∈ Region.ready .any ops listed := mem_ready.2 ⟨by rw [getD_tf hs hj]; exact hc, ops[j], by simp [hj], fun e he hb => by
          have hlt := (hspec j ops[j] (by simp [hj])).1 e he hb
          exact ih e.on hlt (by omega)⟩
        rw [hr] at this; cases this
  have fin : ∀ (listed : Array Bool) (x : Nat → Value) (a1 : Act) (w1 : World), InvV ops (fun _ _ => True) w (fun _ _ _ => True) a listed x a1 w1 → (∀ j, hd j = true → x j = xh j) →
      (∃ n, (∀ j, j < ops.size → hd j = false → (listed.getD j false = true ↔ j < n)) ∧ n ≤ ops.size ∧ S (tvl hd x (ops.toList.take n) 0) w1) → (∀ j, j < ops.size → listed.getD j false = true) → Q .normal a1 w1 := by
    intro listed x a1 w1 inv hx ⟨n, hn, hns, hs⟩ hall
    rw [inv.all hokV hall]
    refine (stepsH_split hx _ _ _ _ h).2 w1 ?_
    rw [List.nil_append]
    rw [← tvl_skip ops.toList 0 n ops.size hns (fun j h1 h2 => by
      cases hj : hd j with
      | true => rfl
      | false => have := (hn j (by omega) hj).1 (hall j (by omega)); omega)] at hs
    rwa [List.take_of_length_le (by simp)] at hs
  intro fuel
  induction fuel with
  | zero =>
    intro listed x a1 w1 inv hx hN hc
    have hall : ∀ j, j < ops.size → listed.getD j false = true := fun j hj => by
      have h0 : (List.range ops.size).countP (fun i => !listed.getD i true) = 0 := by omega
      have := List.countP_eq_zero.1 h0 j (List.mem_range.2 hj)
      rw [← getD_tf inv.lsize hj]
      simpa using this
    refine ⟨?_, fin listed x a1 w1 inv hx hN hall⟩
    rw [List.eq_nil_iff_forall_not_mem]
    intro i hi
    have h1 := (mem_ready.1 hi).1
    obtain ⟨_, o, ho, _⟩ := mem_ready.1 hi
    have hio := (Array.getElem?_eq_some_iff.1 ho).1
    rw [getD_tf inv.lsize hio, hall i hio] at h1
    cases h1
  | succ fuel ih =>
    intro listed x a1 w1 inv hx hN hc
    refine ⟨fun hr => fin listed x a1 w1 inv hx hN (key listed inv.lsize hr), fun i hi => ?_⟩
    obtain ⟨hiu, o, ho, hall⟩ := mem_ready.1 hi
    have hio := (Array.getElem?_eq_some_iff.1 ho).1
    have hif : listed.getD i false = false := by rw [← getD_tf inv.lsize hio]; exact hiu
    have hsame := inv.same hokV ho hif hall
    have hst := (stepsH_split hx _ _ _ _ h).1 i o (by simpa using ho)
    rw [execOp_congr (ρ := (putsV x (ops.toList.take i) 0 a).eval) (ρ' := a1.eval) o (Region.noSelect_spec hsel i o · · ho) (fun y hy => (eval_same hsame y hy).symm), Nat.zero_add, List.nil_append] at hst
    have hcount : ∀ (l2 : Array Bool), l2 = listed.setIfInBounds i true → (List.range ops.size).countP (fun i => !l2.getD i true) ≤ fuel := by
      rintro l2 rfl
      have : (List.range ops.size).countP (fun j => !(listed.setIfInBounds i true).getD j true) < (List.range ops.size).countP (fun j => !listed.getD j true) := by
        refine countP_lt (i := i) (fun j _ hq => ?_) (List.mem_range.2 hio) (by simp only [hiu]; rfl) ?_
        · by_cases hj : j = i
          · subst hj; simp only [hiu]; rfl
          · rw [getD_set_ne true (Ne.symm hj)] at hq; exact hq
        · have : i < listed.size := by rw [inv.lsize]; exact hio
          simp [this]
      omega
    have hwant : Region.wanted o (yielded ops a1.tmps) = true := by unfold Region.wanted; rw [(hH i o ho).1]
    have hset : ∀ j, j ≠ i → (listed.setIfInBounds i true).getD j false = listed.getD j false := fun j hj => getD_set_ne false (Ne.symm hj)
    have hseti : (listed.setIfInBounds i true).getD i false = true := by
      have : i < listed.size := by rw [inv.lsize]; exact hio
      simp [this]
    obtain ⟨n, hn, hns, hs⟩ := hN
    unfold wpOp
    simp only [ho]
    rw [if_pos hwant]
    by_cases hh : hd i = true
    · rw [if_pos hh] at hst
      refine .inl (wp_of_gives ?_)
      rw [hst w1 (hS _ _ hs)]
      have hxe : (fun j => if j = i then xh i else x j) = x := by
        funext j; by_cases hj : j = i
        · subst hj; rw [if_pos rfl, hx _ hh]
        · rw [if_neg hj]
      have hi2 := inv.step hokV (fun _ _ _ _ _ => trivial) (fun _ _ _ _ _ _ => trivial) ho hif hall (v := xh i) (w2 := w1) trivial trivial
      rw [hxe] at hi2
      refine ih _ _ _ _ hi2 hx ⟨n, fun j hj hf => ?_, hns, hs⟩ (hcount _ rfl)
      rw [hset j (fun e => by rw [e, hh] at hf; cases hf)]
      exact hn j hj hf
    · have hhf : hd i = false := by simpa using hh
      rw [if_neg hh] at hst
      have hni : n ≤ i := by
        have := hn i hio hhf
        rw [hif] at this
        have : ¬ i < n := fun h => absurd (this.2 h) (by simp)
        omega
      have hbet : ∀ j, n ≤ j → j < i → hd j = true := by
        intro j h1 h2
        cases hj : hd j with
        | true => rfl
        | false =>
          obtain ⟨p, h3, h4, h5, h6, _⟩ := (hH i o ho).2 hhf j h2 hj
          obtain ⟨e, he1, he2⟩ := Array.any_eq_true'.1 h6
          simp only [Bool.and_eq_true, beq_iff_eq] at he2
          have hl := hall e he1 he2.1
          rw [he2.2] at hl
          have := (hn p (by omega) h5).1 hl
          omega
      rw [← tvl_skip ops.toList 0 n i hni (fun j h1 h2 => hbet j (by omega) (by omega))] at hs
      refine .inl (wp_of_gives ((hst w1 hs).mono fun v w2 hv => ?_))
      have hcg : tvl hd (fun j => if j = i then v else x j) (ops.toList.take i) 0 = tvl hd x (ops.toList.take i) 0 := tvl_congr _ _ fun j h1 h2 => by
        rw [if_neg]; simp at h2; omega
      refine ih _ _ _ _ (inv.step hokV (fun _ _ _ _ _ => trivial) (fun _ _ _ _ _ _ => trivial) ho hif hall (v := v) (w2 := w2) trivial trivial) (fun j hj => ?_) ⟨i + 1, fun j hj hf => ?_, hio, ?_⟩ (hcount _ rfl)
      · rw [if_neg (fun e => by rw [e, hhf] at hj; cases hj)]; exact hx j hj
      · by_cases hji : j = i
        · subst hji; simp [hseti]
        · rw [hset j hji, hn j hj hf]
          refine ⟨fun h => by omega, fun h => ?_⟩
          cases Nat.lt_or_ge j n with
          | inl h => exact h
          | inr h' => have := hbet j h' (by omega); rw [hf] at this; cases this
      · rw [tvl_snoc ops.toList 0 i o (by simpa using ho) (by simpa using hhf), hcg]
        simpa using hv
/-- A region that draws its order: the readers (hd) keep their values in any world that comes (Sc), the others wait for one another. -/
theorem wp_region_H {id : Nat} {l : List Oper} (hd : Nat → Bool) (xh : Nat → Value) (Sc : World → Prop) (S : List Value → World → Prop) (hm : P.follows .mixedOrders = true) (hok : okH l.toArray hd = true)
    (hS : ∀ vs u, S vs u → Sc u) (hw : S [] w.drew)
    (h : stepsH P hd xh Sc S (fun a' w' => Q .normal a' w') l 0 a []) : (Code.region id l.toArray true).wp P Q a w := by
  refine wp_region_any hm (any_of_stepsH (w := w) (a := a) (hd := hd) (xh := xh) (Sc := Sc) (S := S) hok hS (by simpa using h) _ _ xh _ _ ?_ (fun _ _ => rfl) ⟨0, ?_, by omega, by simpa [tvl] using hw⟩ ?_)
  · refine ⟨by simp, trivial, ?_, rfl, rfl, ?_, fun _ _ => rfl, ?_⟩
    · intro j o _ hl; simp [Array.getElem?_replicate] at hl
      split at hl <;> simp at hl
    · intro j o t _ _ hl; simp [Array.getElem?_replicate] at hl
      split at hl <;> simp at hl
    · intro j _ hl; simp [Array.getElem?_replicate] at hl
      split at hl <;> simp at hl
  · intro j hj _
    have : j < l.length := by simpa using hj
    simp [this]
  · refine Nat.le_trans List.countP_le_length ?_
    simp
end
end Go.Sp
namespace Go.Sp
open Go.RowKit
section
variable {P : Program} {hd : Nat → Bool} {xh : Nat → Value} {Sc : World → Prop} {S : List Value → World → Prop} {fin : Act → World → Prop} {o : Oper} {rest : List Oper} {i : Nat} {a : Act} {vs : List Value}
theorem H_head {v : Value} (hh : hd i = true) (hv : xh i = v) (h : ∀ u, Sc u → (execOp a.eval o).run P u = .ok (.value v) u) (k : stepsH P hd xh Sc S fin rest (i + 1) (a.put o.dst v) vs) : stepsH P hd xh Sc S fin (o :: rest) i a vs := by
  subst hv
  unfold stepsH; rw [if_pos hh]; exact ⟨h, k⟩
theorem H_val {f : World → Value} (hh : hd i = false) (h : ∀ u, S vs u → (execOp a.eval o).run P u = .ok (.value (f u)) u ∧ S (vs ++ [f u]) u) (k : ∀ v, stepsH P hd xh Sc S fin rest (i + 1) (a.put o.dst v) (vs ++ [v])) : stepsH P hd xh Sc S fin (o :: rest) i a vs := by
  unfold stepsH; rw [if_neg (by simp [hh])]
  refine ⟨fun u hu => ?_, k⟩
  rw [(h u hu).1]; exact (h u hu).2
theorem H_run (hh : hd i = false) (h : ∀ u, S vs u → ∃ v u', (execOp a.eval o).run P u = .ok (.value v) u' ∧ S (vs ++ [v]) u') (k : ∀ v, stepsH P hd xh Sc S fin rest (i + 1) (a.put o.dst v) (vs ++ [v])) : stepsH P hd xh Sc S fin (o :: rest) i a vs := by
  unfold stepsH; rw [if_neg (by simp [hh])]
  refine ⟨fun u hu => ?_, k⟩
  obtain ⟨v, u', hr, hs⟩ := h u hu
  rw [hr]; exact hs
theorem H_call {f : FuncId} {args : Array Value} (hh : hd i = false) (hr : ∀ u, (execOp a.eval o).run P u = .ok (.enter f args) u) (h : ∀ u, S vs u → Calls P f args u fun e u' => ∃ v, e = .returned v ∧ S (vs ++ [v]) u') (k : ∀ v, stepsH P hd xh Sc S fin rest (i + 1) (a.put o.dst v) (vs ++ [v])) : stepsH P hd xh Sc S fin (o :: rest) i a vs := by
  unfold stepsH; rw [if_neg (by simp [hh])]
  refine ⟨fun u hu => ?_, k⟩
  rw [hr]; exact h u hu
theorem H_nil (h : ∀ u, S vs u → fin a u) : stepsH P hd xh Sc S fin [] i a vs := h
end
end Go.Sp
namespace Go.Sp
open Go.RowKit
section
variable {ρ : Operand → Value} {x y z : Operand} {u v t : Value}
theorem map0 : (#[] : Array Operand).map ρ = #[] := by simp
theorem map1 (hx : ρ x = u) : (#[x] : Array Operand).map ρ = #[u] := by simp [hx]
theorem map2 (hx : ρ x = u) (hy : ρ y = v) : (#[x, y] : Array Operand).map ρ = #[u, v] := by simp [hx, hy]
theorem map3 (hx : ρ x = u) (hy : ρ y = v) (hz : ρ z = t) : (#[x, y, z] : Array Operand).map ρ = #[u, v, t] := by simp [hx, hy, hz]
end
end Go.Sp
namespace Go.Sp
open Go.RowKit
/-- stepsH over a frame and what has come since. -/
def stepsHE (P : Program) (hd : Nat → Bool) (xh : Nat → Value) (Sc : World → Prop) (S : List Value → World → Prop) (a : Act) (fin : Act → World → Prop) : List Oper → Nat → Env → List Value → Prop
  | [], _, e, vs => ∀ u, S vs u → fin (withEnv a e) u
  | o :: rest, i, e, vs =>
    if hd i then (∀ u, Sc u → (execOp (rhoE a e) o).run P u = .ok (.value (xh i)) u) ∧ stepsHE P hd xh Sc S a fin rest (i + 1) (pushE o.dst (xh i) e) vs
    else (∀ u, S vs u → Gives P (fun v u' => S (vs ++ [v]) u') ((execOp (rhoE a e) o).run P u)) ∧ ∀ v, stepsHE P hd xh Sc S a fin rest (i + 1) (pushE o.dst v e) (vs ++ [v])
section
variable {P : Program} {hd : Nat → Bool} {xh : Nat → Value} {Sc : World → Prop} {S : List Value → World → Prop} {a : Act} {fin : Act → World → Prop}
theorem stepsH_of_E : ∀ (l : List Oper) (i : Nat) (e : Env) (vs : List Value), (∀ p ∈ e, p.1 < a.tmps.size) → (l.all (fun o => match o.dst with | some d => decide (d < a.tmps.size) | none => true) = true) →
    stepsHE P hd xh Sc S a fin l i e vs → stepsH P hd xh Sc S fin l i (withEnv a e) vs
  | [], _, _, _, _, _, h => h
  | o :: l, i, e, vs, he, hl, h => by
    simp only [List.all_cons, Bool.and_eq_true] at hl
    have hput : ∀ v, (withEnv a e).put o.dst v = withEnv a (pushE o.dst v e) := fun v => by cases o.dst <;> rfl
    have hb : ∀ v, ∀ p ∈ pushE o.dst v e, p.1 < a.tmps.size := fun v => by
      cases hd : o.dst with
      | none => exact he
      | some d =>
        intro p hp
        simp only [pushE, List.mem_cons] at hp
        rcases hp with rfl | hp
        · have := hl.1; rw [hd] at this; simpa using this
        · exact he p hp
    unfold stepsHE at h
    unfold stepsH
    by_cases hh : hd i = true
    · rw [if_pos hh] at h
      rw [if_pos hh, eval_withEnv a e he, hput]
      exact ⟨h.1, stepsH_of_E l _ _ _ (hb _) hl.2 h.2⟩
    · rw [if_neg hh] at h
      rw [if_neg hh, eval_withEnv a e he]
      refine ⟨h.1, fun v => ?_⟩
      rw [hput]
      exact stepsH_of_E l _ _ _ (hb _) hl.2 (h.2 v)
theorem wp_region_HE {w : World} {Q : Exit → Act → World → Prop} {id : Nat} {l : List Oper} (hd : Nat → Bool) (xh : Nat → Value) (Sc : World → Prop) (S : List Value → World → Prop) (hm : P.follows .mixedOrders = true) (hok : okH l.toArray hd = true)
    (hsz : l.all (fun o => match o.dst with | some d => decide (d < a.tmps.size) | none => true) = true) (hS : ∀ vs u, S vs u → Sc u) (hw : S [] w.drew)
    (h : stepsHE P hd xh Sc S a (fun a' w' => Q .normal a' w') l 0 [] []) : (Code.region id l.toArray true).wp P Q a w :=
  wp_region_H hd xh Sc S hm hok hS hw (stepsH_of_E (a := a) l 0 [] [] (fun _ h => by cases h) hsz h)
variable {rest : List Oper} {i d : Nat} {e : Env} {vs : List Value} {op : Op} {ty : TypeId} {pos : String} {aft : Array Edge} {gd : Option (Nat × Bool)}
theorem HE_head {v : Value} (hh : hd i = true) (hv : xh i = v) (h : ∀ u, Sc u → (execOp (rhoE a e) ⟨some d, op, ty, pos, aft, gd⟩).run P u = .ok (.value v) u) (k : stepsHE P hd xh Sc S a fin rest (i + 1) ((d, v) :: e) vs) : stepsHE P hd xh Sc S a fin (⟨some d, op, ty, pos, aft, gd⟩ :: rest) i e vs := by
  subst hv
  unfold stepsHE; rw [if_pos hh]; exact ⟨h, k⟩
theorem HE_run (hh : hd i = false) (h : ∀ u, S vs u → ∃ v u', (execOp (rhoE a e) ⟨some d, op, ty, pos, aft, gd⟩).run P u = .ok (.value v) u' ∧ S (vs ++ [v]) u') (k : ∀ v, stepsHE P hd xh Sc S a fin rest (i + 1) ((d, v) :: e) (vs ++ [v])) : stepsHE P hd xh Sc S a fin (⟨some d, op, ty, pos, aft, gd⟩ :: rest) i e vs := by
  unfold stepsHE; rw [if_neg (by simp [hh])]
  refine ⟨fun u hu => ?_, k⟩
  obtain ⟨v, u', hr, hs⟩ := h u hu
  rw [hr]; exact hs
theorem HE_call {f : FuncId} {args : Array Value} (hh : hd i = false) (hr : ∀ u, (execOp (rhoE a e) ⟨some d, op, ty, pos, aft, gd⟩).run P u = .ok (.enter f args) u) (h : ∀ u, S vs u → Calls P f args u fun e u' => ∃ v, e = .returned v ∧ S (vs ++ [v]) u') (k : ∀ v, stepsHE P hd xh Sc S a fin rest (i + 1) ((d, v) :: e) (vs ++ [v])) : stepsHE P hd xh Sc S a fin (⟨some d, op, ty, pos, aft, gd⟩ :: rest) i e vs := by
  unfold stepsHE; rw [if_neg (by simp [hh])]
  refine ⟨fun u hu => ?_, k⟩
  rw [hr]; exact h u hu
theorem HE_nil (h : ∀ u, S vs u → fin (withEnv a e) u) : stepsHE P hd xh Sc S a fin [] i e vs := h
theorem wp_norm {Q : Exit → Act → World → Prop} {c : Code} {w : World} {l l' : List Value} {ds : List Deferred} {e : Env} (hl : setsL l 0 e = l')
    (h : c.wp P Q ⟨l'.toArray, ds⟩ w) : c.wp P Q (withEnv ⟨l.toArray, ds⟩ e) w := by rw [withEnv_norm hl]; exact h
end
attribute [irreducible] stepsHE
end Go.Sp
namespace Go.Proofs.Ythpjihiikkhcjaa
open Go.RowKit Go.Sp
set_option maxRecDepth 100000 in
set_option maxHeartbeats 2000000 in
theorem rbytes_any (l : List UInt8) (w : World) (hl : l.length = 16) :
    Calls Try.prog 44 #[.agg (l.map B).toArray] w fun e w' => ∃ v', e = .returned v' ∧ Own 5 w.heap.size w' v' l ∧ Below w.heap.size w w' := by
  have hsz : (l.map B).toArray.size = 16 := by simp [hl]
  have hgt : ∀ k : Nat, (l.map B).toArray[k]? = (l[k]?).map B := fun k => by simp
  have HSZ := Lib.hid hsz
  have HGT := Lib.hid hgt
  have HL := Lib.hid hl
  clear hsz hgt hl
  generalize (l.map B).toArray = A at *
  go_enter Try.func44, Try.ntmps44
  go_wp2
  have hR : Blk (w.alloc (.cells A 65)) w.heap.size A 65 := Blk.new w A 65
  go_loopw [3, 4] (fun b i wr => ∃ k : Nat, k ≤ 16 ∧ i = .int .i64 k ∧ Own 5 (w.heap.size + 1) wr b (l.take k) ∧ Below w.heap.size w wr ∧ Blk wr w.heap.size A 65) (fun _ i _ => (16 - intOf i).toNat)
  case atStart => exact ⟨0, by omega, rfl, Own.nil _ _ _, (Below.refl _ _).alloc (Nat.le_refl _) _, hR⟩
  case round =>
    obtain ⟨k, hk, rfl, ho, hb, hB⟩ := hrel
    have hsz := hB.lt
    clear hR
    by_cases h16 : k < 16
    · obtain ⟨x, hx⟩ : ∃ x, l[k]? = some x := ⟨l[k]'(by rw [HL.out]; exact h16), by simp [HL.out, h16]⟩
      have hc : wr.cell? ⟨w.heap.size, k, none⟩ = some (B x) := by rw [hB.cell, HGT.out, hx]; rfl
      have hlen : (l.take k).length = k := by simp [HL.out]; omega
      have HLN := Lib.hid hlen
      have HX := Lib.hid hx
      clear hlen hx
      go_wp2_with (at_builtin; refine stop_here ?_)
      refine Stop.go (wpList_append_byt rfl rfl byt29 (ho.below ((Below.refl _ _).alloc (Nat.le_refl _) _)) (l := [x]) (Own.lit 5 wr.heap.size wr [x] (Nat.le_refl _) (by simp [maxLen])).byt rfl rfl (by rw [HLN.out]; simp; omega) (by simp; omega) ?_)
      intro v' w' ho' hg _
      have hl' : Below (w.heap.size + 1) wr w' := ((Below.refl _ _).alloc (by omega) _).trans (toBelow hg (by simp; omega) (fun g hgg => (ho.lt g hgg).1))
      have hb' := hb.trans (hl'.mono (by omega))
      have hB' := hB.below hl' (by omega)
      have ho2 : Own 5 (w.heap.size + 1) w' v' (l.take (k + 1)) := by rw [List.take_add_one, HX.out]; exact ho'
      clear hg ho hb hB ho' hc hl'
      go_wp2
      go_roundw
      case rel => exact ⟨k + 1, by omega, by go_num, ho2, hb', hB'⟩
      case measure => simp [intOf]; omega
    · obtain rfl : k = 16 := by omega
      go_wp2
      go_ret
      refine ⟨_, rfl, ?_, hb⟩
      rw [List.take_of_length_le (by rw [HL.out]; omega)] at ho
      exact ho.mono (by omega)
end Go.Proofs.Ythpjihiikkhcjaa
namespace Go.Proofs.Ythpjihiikkhcjaa
open Go.RowKit Go.Sp
theorem pf30 : plainFn Try.prog 54 = true := by kernel_rfl
theorem on29' : oneT Try.prog 23 = true := by kernel_rfl
theorem sl39 : slOf Try.prog 42 = true := by kernel_rfl
def hd44 (i : Nat) : Bool := decide (i < 6) || (decide (8 ≤ i) && decide (i < 12))
def S44 (wr : World) (n m : Nat) (l xs : List UInt8) : List Value → World → Prop
  | [], u => u = wr.drew
  | [v], u => Below m wr u ∧ Own 5 m u v (eight l.length)
  | [_, v], u => Below n wr u ∧ Own 5 n u v (xs ++ eight l.length)
  | [_, _, v], u => Below n wr u ∧ Own 5 n u v (xs ++ eight l.length ++ l)
  | [_, _, v, v'], u => v' = v ∧ Below n wr u ∧ Own 5 n u v (xs ++ eight l.length ++ l)
  | _, _ => False
theorem r_append {P : Program} {w w' : World} {ρ : Operand → Value} {s x : Operand} {v u r : Value} {t1 t2 ty : TypeId} {pos : String} {aft : Array Edge} {g : Option (Nat × Bool)} {d : Option Tmp} (hs : ρ s = v) (hx : ρ x = u) (hr : (Builtin.append_ #[t1, t2] ty #[v, u]).run P w = .ok r w') :
    (execOp ρ ⟨d, .call { callee := .builtin .append, args := #[s, x], argTypes := #[t1, t2] }, ty, pos, aft, g⟩).run P w = .ok (.value r) w' := by
  unfold execOp
  simp only [resolve, invoke, builtin, Sem.run_bind, Sem.run_pure, Result.andThen_ok, List.map_toArray, List.map_cons, List.map_nil, hs, hx, hr]
theorem flat_le (ls : List (List UInt8)) (k : Nat) : (flat (ls.take k)).length ≤ (flat ls).length := by
  have h : flat ls = flat (ls.take k) ++ flat (ls.drop k) := by simp only [flat, ← List.flatMap_append, List.take_append_drop]
  rw [h, List.length_append]; omega
set_option maxRecDepth 100000 in
set_option maxHeartbeats 2000000 in
theorem parts_any (v : Value) (ls : List (List UInt8)) (w : World) (hL : Lst w v ls) (hfl : (flat ls).length ≤ 549755813888) :
    Calls Try.prog 56 #[v] w fun e w' => ∃ v', e = .returned v' ∧ Own 5 w.heap.size w' v' (flat ls) ∧ Below w.heap.size w w' := by
  have hlen : ∃ a c, v = .slice a ls.length c ∧ c ≤ maxLen ∧ ls.length ≤ c := by
    rcases hL with ⟨rfl, rfl⟩ | ⟨g, off, cap, rfl, h1, h2, _⟩
    · exact ⟨none, 0, rfl, by unfold maxLen; omega, by simp⟩
    · exact ⟨_, _, rfl, h2, h1⟩
  obtain ⟨a, c, rfl, hcm, hlc⟩ := hlen
  unfold maxLen at hcm
  have HLL := Lib.hid hL
  have HFL := Lib.hid hfl
  clear hL hfl
  go_enter Try.func56, Try.ntmps56
  go_wp2
  go_loopw [3, 4] (fun b i wr => ∃ k : Nat, k ≤ ls.length ∧ i = .int .i64 k ∧ Own 5 w.heap.size wr b (flat (ls.take k)) ∧ Below w.heap.size w wr) (fun _ i _ => (ls.length - intOf i).toNat)
  case atStart => exact ⟨0, by omega, rfl, Own.nil _ _ _, Below.refl _ _⟩
  case round =>
    obtain ⟨k, hk, rfl, ho, hb⟩ := hrel
    have hsz := hb.size
    by_cases hlt : k < ls.length
    · obtain ⟨l, hl⟩ : ∃ l, ls[k]? = some l := ⟨ls[k], by simp [hlt]⟩
      rcases HLL.out with ⟨_, rfl⟩ | ⟨g, off, cap, hv, _, _, hg, h4⟩
      · simp at hlt
      simp only [Value.slice.injEq, true_and] at hv
      obtain ⟨rfl, rfl⟩ := hv
      obtain ⟨u, hu, hub⟩ := h4 k l hl
      have hft : flat (ls.take (k + 1)) = flat (ls.take k) ++ (eight l.length ++ l) := by rw [List.take_add_one, hl]; exact flat_snoc _ _
      have hfm := flat_le ls (k + 1)
      have hfL := HFL.out
      obtain ⟨ua, uc, rfl, hum, _⟩ := hub.len
      rw [hft] at hfm
      simp only [List.length_append, eight_length] at hfm
      have HFT := Lib.hid hft
      have HUB := Lib.hid hub
      have HU := Lib.hid hu
      clear hft h4 hub hu hl
      generalize flat (ls.take k) = xs at *
      go_wp2
      refine wp_region_HE hd44 (fun j => ([u3, .slice (some ⟨g, off, none⟩) ls.length c, .int .i64 k, .pointer (some ⟨g, off + k, none⟩), .slice ua l.length uc, .int .i64 l.length, undef, undef, .slice (some ⟨g, off, none⟩) ls.length c, .int .i64 k, .pointer (some ⟨g, off + k, none⟩), .slice ua l.length uc] : List Value).getD j undef)
        (fun u => Below w.heap.size w u) (S44 wr w.heap.size wr.heap.size l xs) (by kernel_rfl) (by kernel_rfl) (by kernel_rfl) ?_ rfl ?_
      · intro vs u hu
        rcases vs with _ | ⟨v1, _ | ⟨v2, _ | ⟨v3, _ | ⟨v4, _ | _⟩⟩⟩⟩
        · cases hu; exact hb.drew
        · exact hb.trans (hu.1.mono hsz)
        · exact hb.trans hu.1
        · exact hb.trans hu.1
        · exact hb.trans hu.2.1
        · exact hu.elim
      refine HE_head rfl rfl (fun u hu => r_move (rho_base rfl rfl)) ?_
      refine HE_head rfl rfl (fun u hu => r_move (rho_base rfl rfl)) ?_
      refine HE_head rfl rfl (fun u hu => r_move (rho_base rfl rfl)) ?_
      refine HE_head rfl rfl (fun u hu => r_indexSl (rho_env rfl) (rho_env rfl) sl39 ⟨by omega, by omega, rfl⟩) ?_
      refine HE_head rfl rfl (fun u hu => r_load (rho_env rfl) on29 ((World.cell?_of_block (hu.block g hg)).trans HU.out)) ?_
      refine HE_head rfl rfl (fun u hu => r_lenSl (rho_env rfl) Try.underlying23) ?_
      refine HE_call (f := 54) (args := #[.int .i64 l.length]) rfl (fun u => r_call pf30 (map1 (rho_env rfl)) rfl) (fun u hu => (eight_any _ _).mono ?_) fun v1 => ?_
      · rintro _ u' ⟨v', rfl, ho', hb'⟩
        cases hu
        exact ⟨_, rfl, (Below.refl _ _).drew.trans hb', ho'⟩
      refine HE_run rfl (fun u hu => ?_) fun v2 => ?_
      · obtain ⟨v', u', hr, h1, h2, _⟩ := run_append_byt (P := Try.prog) u byt29 23 w.heap.size (ho.below hu.1) hu.2.byt (by rw [eight_length]; omega) (by have := hu.1.size; omega)
        exact ⟨v', u', r_append (rho_env rfl) (rho_env rfl) hr, (hu.1.mono hsz).trans (toBelow h2 (by have := hu.1.size; omega) (fun g hgg => (ho.lt g hgg).1)), h1⟩
      refine HE_head rfl rfl (fun u hu => r_move (rho_base rfl rfl)) ?_
      refine HE_head rfl rfl (fun u hu => r_move (rho_base rfl rfl)) ?_
      refine HE_head rfl rfl (fun u hu => r_indexSl (rho_env rfl) (rho_env rfl) sl39 ⟨by omega, by omega, rfl⟩) ?_
      refine HE_head rfl rfl (fun u hu => r_load (rho_env rfl) on29 ((World.cell?_of_block (hu.block g hg)).trans HU.out)) ?_
      refine HE_run rfl (fun u hu => ?_) fun v3 => ?_
      · obtain ⟨v', u', hr, h1, h2, _⟩ := run_append_byt (P := Try.prog) u byt29 23 w.heap.size hu.2 (HUB.out.ext (hb.trans hu.1)) (by rw [List.length_append, eight_length]; omega) (by have := hu.1.size; omega)
        exact ⟨v', u', r_append (rho_env rfl) (rho_env rfl) hr, hu.1.trans (toBelow h2 (by have := hu.1.size; omega) (fun g hgg => (hu.2.lt g hgg).1)), h1⟩
      refine HE_run rfl (fun u hu => ⟨_, _, r_assign (rho_env rfl), rfl, hu⟩) fun v4 => ?_
      refine HE_nil fun u hu => ?_
      rw [withEnv_norm (rfl : setsL _ 0 _ = [_, _, _, _, _, _, _, _, _, _, _, _, _, _, _, _, _, _, _, _, _, _, _, _, _])]
      obtain ⟨rfl, hb2, ho2⟩ := hu
      have hb3 := hb.trans hb2
      clear ho hb hb2
      go_wp2
      go_roundw
      case rel => exact ⟨k + 1, by omega, by go_num, by rw [HFT.out, ← List.append_assoc]; exact ho2, hb3⟩
      case measure => simp [intOf]; omega
    · obtain rfl : k = ls.length := by omega
      go_wp2
      go_ret
      refine ⟨_, rfl, ?_, hb⟩
      rw [List.take_of_length_le (Nat.le_refl _)] at ho
      exact ho
end Go.Proofs.Ythpjihiikkhcjaa
namespace Go.Sp
theorem macB_raw (key : List UInt8) (ls : List (List UInt8)) : macB key ls = rawB key (flat ls) := (rawB_eq _ _).symm
theorem rawB_length (key b : List UInt8) : (rawB key b).length = 16 := outB_length _
end Go.Sp
namespace Go.Proofs.Ythpjihiikkhcjaa
open Go.RowKit Go.Sp
set_option maxRecDepth 100000 in
set_option maxHeartbeats 2000000 in
theorem rmac_any (kv v : Value) (key : List UInt8) (ls : List (List UInt8)) (w : World) (hk : Byt w kv key) (hkl : key.length ≤ 549755813888) (hL : Lst w v ls) (hfl : (flat ls).length ≤ 549755813888) :
    Calls Try.prog 45 #[kv, v] w fun e w' => e = .returned (.agg ((macB key ls).map B).toArray) ∧ Below w.heap.size w w' := by
  have HFL := Lib.hid hfl
  go_enter Try.func45, Try.ntmps45
  go_wp2_with fail
  refine (parts_any v ls _ (hL.ext ((Below.refl _ _).alloc (Nat.le_refl _) _)) hfl).mono ?_
  rintro _ w1 ⟨v1, rfl, ho1, hb1⟩
  have hR1 : Blk w1 w.heap.size ((List.replicate 16 (0 : UInt8)).map B).toArray 65 := (Blk.new w _ 65).ext hb1
  have hbw : Below w.heap.size w w1 := ((Below.refl _ _).alloc (Nat.le_refl _) _).trans (hb1.mono (by simp))
  clear hb1 hfl hL
  go_wp2_with fail
  refine (raw_any kv v1 key (flat ls) _ (hk.ext hbw) ho1.byt hkl HFL.out).mono ?_
  rintro _ w2 ⟨rfl, hb2⟩
  have hR2 := hR1.ext hb2
  have hb3 := hbw.trans (hb2.mono hbw.size)
  have hsz16 : ((rawB key (flat ls)).map B).toArray.size = 16 := by simp [rawB_length]
  have HSZ := Lib.hid hsz16
  have HONE := Lib.hid (bytes_one (rawB key (flat ls)))
  have hOUT : ((macB key ls).map B).toArray = ((rawB key (flat ls)).map B).toArray := by rw [macB_raw]
  clear hsz16 hb2 hR1 hbw ho1
  generalize ((rawB key (flat ls)).map B).toArray = OUT at *
  have HOUT := Lib.hid hOUT
  clear hOUT
  go_wp2_with (refine (show wpList _ _ _ (⟨none, .store 65 (.tmp 4) (.tmp 8), _, _, _, _⟩ :: _) _ _ from stop_here ?_))
  refine Stop.go (wpList_store_blk rfl rfl rfl rfl hR2 (by rw [HSZ.out]; rfl) (by rw [HSZ.out]; kernel_rfl) HONE.out ?_)
  intro w3 hR3 hO3
  have hb4 : Below w.heap.size w w3 := hb3.trans (hO3.below (Nat.le_refl _) hb3.size)
  clear hO3 hR2 hb3
  go_wp2
  exact bodyPost_ret (results_cell_row rfl _ _ w.heap.size 65 OUT (0, 0) _ rfl hR3 Try.underlying65 rfl (by rw [HSZ.out]; kernel_rfl)) rfl ⟨by rw [HOUT.out], hb4⟩
end Go.Proofs.Ythpjihiikkhcjaa
