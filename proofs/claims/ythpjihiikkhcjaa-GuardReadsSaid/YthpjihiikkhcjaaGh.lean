/-
  A part of the proofs of this seat: laws of the walk, or contracts of the functions that the statements reach. No conditions but those that each theorem names.
-/
import Derived.Test.YthpjihiikkhcjaaGg
namespace Go.Sp
open Go.RowKit
theorem stp_le (m : Int) (y : UInt8) : stp m y ≤ 9223372036854775807 := by
  unfold stp bits
  rw [IntKind.wrap_i64]
  omega
theorem foldl_stp_le : ∀ (l : List UInt8) (m : Int), m ≤ 9223372036854775807 → l.foldl stp m ≤ 9223372036854775807
  | [], _, h => h
  | y :: l, m, _ => foldl_stp_le l (stp m y) (stp_le m y)
theorem numB_le (l : List UInt8) : numB l ≤ 9223372036854775807 := foldl_stp_le l 0 (by decide)
/-- The k-th number of a token's bytes, its name of L bytes. -/
def numAt (b : List UInt8) (L k : Nat) : Int := numB ((b.take (1 + L + 8 * k + 8)).drop (1 + L + 8 * k))
def tokA (nm : List UInt8) (f : Nat → Int) (k : Nat) : Array Value := #[.string ⟨nm.toArray⟩, .int .i64 (if 0 < k then f 0 else 0), .int .i64 (if 1 < k then f 1 else 0), .int .i64 (if 2 < k then f 2 else 0), .int .i64 (if 3 < k then f 3 else 0)]
def zeroTok : Array Value := tokV [] 0 0 0 0
/-- What Read answers. -/
def readM (key b : List UInt8) : Array Value × Bool :=
  match b[0]? with
  | none => (zeroTok, false)
  | some y =>
    if b.length ≠ 1 + y.toNat + 48 then (zeroTok, false)
    else if numAt b y.toNat 0 < 0 ∨ numAt b y.toNat 1 < 0 ∨ numAt b y.toNat 2 < 0 ∨ numAt b y.toNat 3 < 0 then (zeroTok, false)
    else if namedM ((b.take (1 + y.toNat)).drop 1) = false then (zeroTok, false)
    else if (issueB key ((b.take (1 + y.toNat)).drop 1) (numAt b y.toNat 0) (numAt b y.toNat 1) (numAt b y.toNat 2) (numAt b y.toNat 3) == b) = false then (zeroTok, false)
    else (tokV ((b.take (1 + y.toNat)).drop 1) (numAt b y.toNat 0) (numAt b y.toNat 1) (numAt b y.toNat 2) (numAt b y.toNat 3), true)
theorem tokA_set (nm : List UInt8) (f : Nat → Int) (k : Nat) (h : k < 4) : (tokA nm f k).setIfInBounds (1 + k) (.int .i64 (f k)) = tokA nm f (k + 1) := by
  obtain rfl | rfl | rfl | rfl : k = 0 ∨ k = 1 ∨ k = 2 ∨ k = 3 := by omega
  all_goals simp [tokA]
theorem tokA_get (nm : List UInt8) (f : Nat → Int) (k : Nat) (h : k < 4) : (tokA nm f k)[1 + k]? = some (.int .i64 0) := by
  obtain rfl | rfl | rfl | rfl : k = 0 ∨ k = 1 ∨ k = 2 ∨ k = 3 := by omega
  all_goals simp [tokA]
theorem wpList_valw {P : Program} {ops : Array Oper} {rest : List Oper} {o : Oper} {a : Act} {w w' : World} {Q : Exit → Act → World → Prop} {v : Value} (hg : Region.wanted o (yielded ops a.tmps) = true) (hr : (execOp a.eval o).run P w = .ok (.value v) w')
    (h : wpList P ops Q rest (a.put o.dst v) w') : wpList P ops Q (o :: rest) a w :=
  wpList_step fun K hK => by
    rw [if_pos hg]
    unfold Oper.wp
    rw [hr]
    exact hK _ _ h
end Go.Sp
namespace Go.Proofs.Ythpjihiikkhcjaa
open Go.RowKit Go.Sp
theorem size35 (nm : List UInt8) (i c e r : Int) : (Try.prog.info? 35).map (·.size) = some (tokV nm i c e r).size := by
  rw [show (tokV nm i c e r).size = 5 from rfl]; kernel_rfl
set_option maxRecDepth 100000 in
set_option maxHeartbeats 4000000 in
theorem read_len (kv bv : Value) (b : List UInt8) (w : World) (hb : Byt w bv b) (h : b = [] ∨ ∃ y, b[0]? = some y ∧ b.length ≠ 1 + y.toNat + 48) :
    Calls Try.prog 22 #[kv, bv] w fun e' w' => e' = .returned (.tuple #[.agg zeroTok, .bool false]) ∧ Below w.heap.size w w' := by
  have hzt : zeroTok = #[.string ⟨#[]⟩, .int .i64 0, .int .i64 0, .int .i64 0, .int .i64 0] := rfl
  have hB := Lib.hid hb
  obtain ⟨ba, bc, rfl, hbc, hbm⟩ := hb.len
  unfold maxLen at hbm
  rcases h with rfl | ⟨y, hy, hne⟩
  · go_enter Try.func22, Try.ntmps22
    go_wp2
    exact bodyPost_ret (results_row_tmp rfl _ _ w.heap.size 35 zeroTok (0, 0) _ rfl (Blk.new w _ 35) Try.underlying35 rfl (size35 _ _ _ _ _)) rfl ⟨rfl, (Below.refl _ _).alloc (Nat.le_refl _) _⟩
  · have h1 : ¬ (b.length : Int) < 1 := by
      have := (List.getElem?_eq_some_iff.1 hy).1
      omega
    rcases hB.out with ⟨_, h0⟩ | ⟨g, off, cap, he, _, _, hg, hc⟩
    · rw [h0] at hy; cases hy
    simp only [Value.slice.injEq, true_and] at he
    obtain ⟨rfl, rfl⟩ := he
    have hcy := hc 0 y hy
    rw [Nat.add_zero] at hcy
    have hl0 : (0 : Int) < (b.length : Int) := by omega
    have hl63 : (b.length : Int) ≤ 9223372036854775807 := by omega
    have hne' : ((b.length : Int) != 1 + (y.toNat : Int) + 32 + 16) = true := by simp; omega
    have hy1 : (y.toNat : Int) ≤ 255 := by have := y.toNat_lt; omega
    clear hc hy hne
    go_enter Try.func22, Try.ntmps22
    go_wp2
    exact bodyPost_ret (results_row_tmp rfl _ _ w.heap.size 35 zeroTok (0, 0) _ rfl (Blk.new w _ 35) Try.underlying35 rfl (size35 _ _ _ _ _)) rfl ⟨rfl, (Below.refl _ _).alloc (Nat.le_refl _) _⟩
set_option maxRecDepth 100000 in
set_option maxHeartbeats 8000000 in
theorem read_main (kv : Value) (key b : List UInt8) (y : UInt8) (ba : Option Addr) (bc : Nat) (w : World) (hk : Byt w kv key) (hb : Byt w (.slice ba b.length bc) b) (hkl : key.length ≤ 1000) (hy : b[0]? = some y) (hbl : b.length = 1 + y.toNat + 48) :
    Calls Try.prog 22 #[kv, .slice ba b.length bc] w fun e' w' => e' = .returned (.tuple #[.agg (readM key b).1, .bool (readM key b).2]) ∧ Below w.heap.size w w' := by
  have HK := Lib.hid hk
  have HB := Lib.hid hb
  obtain ⟨ka, kc, rfl, hkc, hkm⟩ := hk.len
  have hbc : b.length ≤ bc ∧ bc ≤ 9223372036854775807 := by
    obtain ⟨_, _, h1, h2, h3⟩ := hb.len
    unfold maxLen at h3
    simp only [Value.slice.injEq, true_and] at h1
    obtain ⟨_, rfl⟩ := h1
    omega
  obtain ⟨hbc, hbm⟩ := hbc
  have hylt := y.toNat_lt
  obtain ⟨R, hR⟩ : ∃ R, R = readM key b := ⟨_, rfl⟩
  rw [← hR]
  unfold readM at hR
  rw [hy] at hR
  simp only [hbl, ne_eq, not_true_eq_false, if_false] at hR
  obtain ⟨nm, hnm⟩ : ∃ nm, nm = (b.take (1 + y.toNat)).drop 1 := ⟨_, rfl⟩
  have hnl : nm.length = y.toNat := by rw [hnm]; simp; omega
  rw [← hnm] at hR
  have HNM := Lib.hid hnm
  have HNL := Lib.hid hnl
  have HR := Lib.hid hR
  have HBL := Lib.hid hbl
  have hcy : w.cell? (Addr.mk 0 0 none) = w.cell? (Addr.mk 0 0 none) := rfl
  rcases HB.out with ⟨_, h0⟩ | ⟨g, off, cap, he, _, _, hg, hc⟩
  · rw [h0] at hy; cases hy
  simp only [Value.slice.injEq, true_and] at he
  obtain ⟨rfl, rfl⟩ := he
  have hcy := hc 0 y hy
  rw [Nat.add_zero] at hcy
  have hl0 : (0 : Int) < (b.length : Int) := by omega
  have h1 : ¬ (b.length : Int) < 1 := by omega
  have hne' : ((b.length : Int) != 1 + (y.toNat : Int) + 32 + 16) = false := by simp; omega
  have hy1 : (y.toNat : Int) ≤ 255 := by omega
  clear hc hy hk hb hR hnm hnl hbl hylt
  go_enter Try.func22, Try.ntmps22
  go_wp2_with (refine (show wpList _ _ _ (⟨some 33, _, _, _, _, _⟩ :: _) _ _ from stop_here ?_))
  have hB1 : Blk (w.alloc (.cells zeroTok 35)) w.heap.size zeroTok 35 := Blk.new w _ 35
  have hbw1 : Below w.heap.size w (w.alloc (.cells zeroTok 35)) := (Below.refl _ _).alloc (Nat.le_refl _) _
  have hs1 : (w.alloc (.cells zeroTok 35)).heap.size = w.heap.size + 1 := by simp
  rw [show (w.alloc (.cells #[.string ⟨#[]⟩, .int .i64 0, .int .i64 0, .int .i64 0, .int .i64 0] 35)) = w.alloc (.cells zeroTok 35) from rfl]
  have hcut := (HB.out.ext hbw1).cut 1 (1 + y.toNat) (by omega) (by have := HBL.out; omega)
  rw [← HNM.out] at hcut
  generalize w.alloc (.cells zeroTok 35) = w1 at *
  refine Stop.go (wpList_val rfl (r_slLH (lo := 1) (hi := 1 + y.toNat) sl1_29 rfl rfl rfl (by omega) (by have := HBL.out; omega)) ?_)
  refine wpList_val rfl (r_conv rfl (Byt.str hcut Try.underlying23 Try.underlying5 Try.underlying9)) ?_
  clear hcut
  go_wp2_with fail
  obtain ⟨f, hf⟩ : ∃ f, f = numAt b y.toNat := ⟨_, rfl⟩
  have HF := Lib.hid hf
  have hR3 := HR.out
  rw [← hf] at hR3
  have HR3 := Lib.hid hR3
  clear hf hR3 HR
  have hB3 := (hB1.alloc (.cells (tokA nm f 0) 35)).alloc (.cells #[.pointer (some ⟨w.heap.size + 1, 1, none⟩), .pointer (some ⟨w.heap.size + 1, 2, none⟩), .pointer (some ⟨w.heap.size + 1, 3, none⟩), .pointer (some ⟨w.heap.size + 1, 4, none⟩)] 67)
  have hT3 : Blk ((w1.alloc (.cells (tokA nm f 0) 35)).alloc (.cells #[.pointer (some ⟨w.heap.size + 1, 1, none⟩), .pointer (some ⟨w.heap.size + 1, 2, none⟩), .pointer (some ⟨w.heap.size + 1, 3, none⟩), .pointer (some ⟨w.heap.size + 1, 4, none⟩)] 67)) (w.heap.size + 1) (tokA nm f 0) 35 := (Blk.newAt hs1.symm _ 35).alloc _
  have hP3 : Blk ((w1.alloc (.cells (tokA nm f 0) 35)).alloc (.cells #[.pointer (some ⟨w.heap.size + 1, 1, none⟩), .pointer (some ⟨w.heap.size + 1, 2, none⟩), .pointer (some ⟨w.heap.size + 1, 3, none⟩), .pointer (some ⟨w.heap.size + 1, 4, none⟩)] 67)) (w.heap.size + 1 + 1) #[.pointer (some ⟨w.heap.size + 1, 1, none⟩), .pointer (some ⟨w.heap.size + 1, 2, none⟩), .pointer (some ⟨w.heap.size + 1, 3, none⟩), .pointer (some ⟨w.heap.size + 1, 4, none⟩)] 67 := Blk.newAt (by simp [hs1]) _ 67
  have hbw3 := (hbw1.alloc hbw1.size (.cells (tokA nm f 0) 35)).alloc (by simp; omega) (.cells #[.pointer (some ⟨w.heap.size + 1, 1, none⟩), .pointer (some ⟨w.heap.size + 1, 2, none⟩), .pointer (some ⟨w.heap.size + 1, 3, none⟩), .pointer (some ⟨w.heap.size + 1, 4, none⟩)] 67)
  rw [show (w1.alloc (.cells #[.string ⟨nm.toArray⟩, .int .i64 0, .int .i64 0, .int .i64 0, .int .i64 0] 35)) = w1.alloc (.cells (tokA nm f 0) 35) from rfl]
  generalize (w1.alloc (.cells (tokA nm f 0) 35)).alloc (.cells #[.pointer (some ⟨w.heap.size + 1, 1, none⟩), .pointer (some ⟨w.heap.size + 1, 2, none⟩), .pointer (some ⟨w.heap.size + 1, 3, none⟩), .pointer (some ⟨w.heap.size + 1, 4, none⟩)] 67) = w3 at *
  clear hB1 hbw1 hs1 hcy
  go_loopw [42, 6] (fun i p wr => ∃ k : Nat, k ≤ 4 ∧ i = .int .i64 k ∧ p = .int .i64 (1 + (y.toNat : Int) + 8 * (k : Int)) ∧ (∀ j, j < k → 0 ≤ f j) ∧ Blk wr w.heap.size zeroTok 35 ∧ Blk wr (w.heap.size + 1) (tokA nm f k) 35 ∧ Blk wr (w.heap.size + 1 + 1) #[.pointer (some ⟨w.heap.size + 1, 1, none⟩), .pointer (some ⟨w.heap.size + 1, 2, none⟩), .pointer (some ⟨w.heap.size + 1, 3, none⟩), .pointer (some ⟨w.heap.size + 1, 4, none⟩)] 67 ∧ Below w.heap.size w wr) (fun i _ _ => (4 - intOf i).toNat)
  case atStart => exact ⟨0, by omega, rfl, by simp, fun j hj => by omega, hB3, hT3, hP3, hbw3⟩
  case round =>
    clear hB3 hT3 hP3 hbw3
    obtain ⟨k, hk4, rfl, rfl, hpos, hB, hT, hP, hbw⟩ := hrel
    have HPOS := Lib.hid hpos
    clear hpos
    by_cases hlt : k < 4
    · have hcp : wr.cell? ⟨w.heap.size + 1 + 1, k, none⟩ = some (.pointer (some ⟨w.heap.size + 1, 1 + k, none⟩)) := by
        rw [hP.cell]
        obtain rfl | rfl | rfl | rfl : k = 0 ∨ k = 1 ∨ k = 2 ∨ k = 3 := by omega
        all_goals rfl
      have hlt' : (k : Int) < 4 := by omega
      have hk0 : (0 : Int) ≤ k := by omega
      have hcut := (HB.out.ext hbw).cut (1 + y.toNat + 8 * k) (1 + y.toNat + 8 * k + 8) (by omega) (by have := HBL.out; omega)
      have hle : 1 + y.toNat + 8 * k + 8 ≤ b.length := by have := HBL.out; omega
      go_wp2_with (refine (show wpList _ _ _ (⟨some 51, _, _, _, _, _⟩ :: _) _ _ from stop_here ?_))
      refine Stop.go (wpList_val rfl (r_slLH (k := .i64) (k' := .i64) (lo := 1 + y.toNat + 8 * k) (hi := 1 + y.toNat + 8 * k + 8) sl1_29 rfl (congrArg (Value.int .i64) (by simp)) (congrArg (Value.int .i64) (by simp)) (by omega) (by omega)) ?_)
      go_wp2_with fail
      refine (gnumber_any _ _ _ hcut (by simp; omega)).mono ?_
      rintro _ v1 ⟨rfl, hb1⟩
      have hB1 := hB.ext hb1
      have hT1 := hT.ext hb1
      have hP1 := hP.ext hb1
      have hbw1 := hbw.trans (hb1.mono hbw.size)
      have hfk : numB ((b.take (1 + y.toNat + 8 * k + 8)).drop (1 + y.toNat + 8 * k)) = f k := by rw [HF.out]; rfl
      rw [hfk]
      have hl1 := hT1.lt
      clear hb1 hB hT hP hbw hcut hfk hcp
      have hct : v1.cell? ⟨w.heap.size + 1, 1 + k, none⟩ = some (.int .i64 0) := by rw [hT1.cell]; exact tokA_get nm f k hlt
      have hcf := hT1.frozen (1 + k)
      have hT2 : Blk (v1.setCell ⟨w.heap.size + 1, 1 + k, none⟩ (.int .i64 (f k))) (w.heap.size + 1) (tokA nm f (k + 1)) 35 := by
        have := hT1.set (1 + k) (.int .i64 (f k))
        rwa [tokA_set nm f k hlt] at this
      have hB2 := hB1.setOther ⟨w.heap.size + 1, 1 + k, none⟩ (.int .i64 (f k)) (by show w.heap.size ≠ w.heap.size + 1; omega)
      have hP2 := hP1.setOther ⟨w.heap.size + 1, 1 + k, none⟩ (.int .i64 (f k)) (by show w.heap.size + 1 + 1 ≠ w.heap.size + 1; omega)
      have hbw2 := hbw1.setCell (p := ⟨w.heap.size + 1, 1 + k, none⟩) (by show w.heap.size ≤ w.heap.size + 1; omega) (.int .i64 (f k))
      clear hT1 hB1 hP1 hbw1
      by_cases hneg : f k < 0
      · have HZ : Hid (R = (zeroTok, false)) := Lib.hid (by
          rw [HR3.out, if_pos]
          obtain rfl | rfl | rfl | rfl : k = 0 ∨ k = 1 ∨ k = 2 ∨ k = 3 := by omega
          all_goals simp [hneg])
        go_wp2_with (refine (show wpList _ _ _ (⟨none, .store 35 (.tmp 4) (.tmp 58), _, _, _, _⟩ :: _) _ _ from stop_here ?_))
        refine Stop.go (wpList_store_blk rfl rfl rfl rfl hB2 rfl (size35 _ _ _ _ _) (by simp [Value.oneCell']) ?_)
        intro wz hRz hOz
        have hbwz := hbw2.trans (hOz.below (Nat.le_refl _) hbw2.size)
        clear hOz
        go_wp2
        exact bodyPost_ret (results_row_tmp rfl _ _ w.heap.size 35 zeroTok (0, 0) _ rfl hRz Try.underlying35 rfl (size35 _ _ _ _ _)) rfl ⟨by rw [HZ.out]; rfl, hbwz⟩
      · have hpos' : ∀ j, j < k + 1 → 0 ≤ f j := fun j hj => by
          by_cases e : j = k
          · subst e; omega
          · exact HPOS.out j (by omega)
        have HP' := Lib.hid hpos'
        clear hpos'
        go_wp2
        go_roundw
        case rel => exact ⟨k + 1, by omega, by go_num, by congr 1, HP'.out, hB2, hT2, hP2, hbw2⟩
        case measure => simp [intOf]; omega
    · obtain rfl : k = 4 := by omega
      have hTV : tokA nm f 4 = tokV nm (f 0) (f 1) (f 2) (f 3) := by simp [tokA, tokV]
      rw [hTV] at hT
      have h0 := HPOS.out 0 (by omega)
      have h1' := HPOS.out 1 (by omega)
      have h2' := HPOS.out 2 (by omega)
      have h3' := HPOS.out 3 (by omega)
      have hR4 := HR3.out
      rw [if_neg (by omega)] at hR4
      have HR4 := Lib.hid hR4
      have hcn : wr.cell? ⟨w.heap.size + 1, 0, none⟩ = some (.string ⟨nm.toArray⟩) := by rw [hT.cell]; rfl
      clear hTV hR4 hP
      go_wp2_with fail
      refine (named_any nm _ (by have := HNL.out; omega)).mono ?_
      rintro _ v1 ⟨rfl, rfl⟩
      cases hnd : namedM nm with
      | false =>
        have HZ : Hid (R = (zeroTok, false)) := Lib.hid (by rw [HR4.out, if_pos hnd])
        clear hnd
        go_wp2_with (refine (show wpList _ _ _ (⟨none, .store 35 (.tmp 4) (.tmp 74), _, _, _, _⟩ :: _) _ _ from stop_here ?_))
        refine Stop.go (wpList_store_blk rfl rfl rfl rfl hB rfl (size35 _ _ _ _ _) (by simp [Value.oneCell']) ?_)
        intro wz hRz hOz
        have hbwz := hbw.trans (hOz.below (Nat.le_refl _) hbw.size)
        clear hOz
        go_wp2
        exact bodyPost_ret (results_row_tmp rfl _ _ w.heap.size 35 zeroTok (0, 0) _ rfl hRz Try.underlying35 rfl (size35 _ _ _ _ _)) rfl ⟨by rw [HZ.out]; rfl, hbwz⟩
      | true =>
        have hR5 := HR4.out
        rw [hnd, if_neg (by decide)] at hR5
        have HR5 := Lib.hid hR5
        clear hR5 hnd
        go_wp2_with (refine (show wpList _ _ _ (⟨some 68, .load 35 (.tmp 7), _, _, _, _⟩ :: _) _ _ from stop_here ?_))
        refine Stop.go (wpList_valw rfl (r_loadBlk rfl hT Try.underlying35 rfl (size35 _ _ _ _ _)) ?_)
        go_wp2_with fail
        have hfb : ∀ j, f j ≤ 9223372036854775807 := fun j => by rw [HF.out]; exact numB_le _
        refine (issue_any _ key nm (f 0) (f 1) (f 2) (f 3) _ (HK.out.ext hbw) hkl (by have := HNL.out; omega) ⟨h0, hfb 0⟩ ⟨h1', hfb 1⟩ ⟨h2', hfb 2⟩ ⟨h3', hfb 3⟩).mono ?_
        rintro _ v2 ⟨iv, rfl, hI, hb2⟩
        have hB2 := hB.ext hb2
        have hT2 := hT.ext hb2
        have hbw2 := hbw.trans (hb2.mono hbw.size)
        clear hb2 hB hT hbw hcn
        have hIl : (issueB key nm (f 0) (f 1) (f 2) (f 3)).length ≤ 100000 := by
          unfold issueB
          rw [List.length_append, macB_length, flat_cat]
          have := HNL.out
          omega
        obtain ⟨I, hII⟩ : ∃ I, I = issueB key nm (f 0) (f 1) (f 2) (f 3) := ⟨_, rfl⟩
        rw [← hII] at hI hIl
        have HI := Lib.hid hII
        clear hII
        obtain ⟨ia, ic, rfl, hic, him⟩ := hI.len
        go_wp2_with fail
        refine (same_any _ _ I b _ hI (HB.out.ext hbw2) (by omega)).mono ?_
        rintro _ v3 ⟨rfl, hb3⟩
        have hB3 := hB2.ext hb3
        have hT3 := hT2.ext hb3
        have hbw3 := hbw2.trans (hb3.mono hbw2.size)
        clear hb3 hB2 hT2 hbw2 hI
        cases hsm : I == b with
        | false =>
          have HZ : Hid (R = (zeroTok, false)) := Lib.hid (by rw [HR5.out, if_pos (by rw [← HI.out]; exact hsm)])
          clear hsm
          go_wp2_with (refine (show wpList _ _ _ (⟨none, .store 35 (.tmp 4) (.tmp 74), _, _, _, _⟩ :: _) _ _ from stop_here ?_))
          refine Stop.go (wpList_store_blk rfl rfl rfl rfl hB3 rfl (size35 _ _ _ _ _) (by simp [Value.oneCell']) ?_)
          intro wz hRz hOz
          have hbwz := hbw3.trans (hOz.below (Nat.le_refl _) hbw3.size)
          clear hOz
          go_wp2
          exact bodyPost_ret (results_row_tmp rfl _ _ w.heap.size 35 zeroTok (0, 0) _ rfl hRz Try.underlying35 rfl (size35 _ _ _ _ _)) rfl ⟨by rw [HZ.out]; rfl, hbwz⟩
        | true =>
          have HZ : Hid (R = (tokV nm (f 0) (f 1) (f 2) (f 3), true)) := Lib.hid (by rw [HR5.out, if_neg (by rw [← HI.out, hsm]; decide)])
          clear hsm
          go_wp2_with (refine (show wpList _ _ _ (⟨some 75, .load 35 (.tmp 7), _, _, _, _⟩ :: _) _ _ from stop_here ?_))
          refine Stop.go (wpList_val rfl (r_loadBlk rfl hT3 Try.underlying35 rfl (size35 _ _ _ _ _)) ?_)
          go_wp2_with (refine (show wpList _ _ _ (⟨none, .store 35 (.tmp 4) (.tmp 75), _, _, _, _⟩ :: _) _ _ from stop_here ?_))
          refine Stop.go (wpList_store_blk rfl rfl rfl rfl hB3 rfl (size35 _ _ _ _ _) (by simp [tokV, Value.oneCell']) ?_)
          intro wz hRz hOz
          have hbwz := hbw3.trans (hOz.below (Nat.le_refl _) hbw3.size)
          clear hOz
          go_wp2
          exact bodyPost_ret (results_row_tmp rfl _ _ w.heap.size 35 _ (0, 0) _ rfl hRz Try.underlying35 rfl (size35 _ _ _ _ _)) rfl ⟨by rw [HZ.out]; rfl, hbwz⟩
theorem read_any (kv bv : Value) (key b : List UInt8) (w : World) (hk : Byt w kv key) (hb : Byt w bv b) (hkl : key.length ≤ 1000) :
    Calls Try.prog 22 #[kv, bv] w fun e' w' => e' = .returned (.tuple #[.agg (readM key b).1, .bool (readM key b).2]) ∧ Below w.heap.size w w' := by
  cases hy : b[0]? with
  | none =>
    have h0 : b = [] := by
      cases b with
      | nil => rfl
      | cons a l => simp at hy
    have hR : readM key b = (zeroTok, false) := by unfold readM; rw [hy]
    rw [hR]
    exact read_len kv bv b w hb (.inl h0)
  | some y =>
    by_cases hbl : b.length = 1 + y.toNat + 48
    · obtain ⟨ba, bc, rfl, _, _⟩ := hb.len
      exact read_main kv key b y ba bc w hk hb hkl hy hbl
    · have hR : readM key b = (zeroTok, false) := by unfold readM; rw [hy]; simp only [ne_eq, hbl, not_false_eq_true, if_true]
      rw [hR]
      exact read_len kv bv b w hb (.inr ⟨y, hy, hbl⟩)
theorem pf22 : plainFn Try.prog 22 = true := by kernel_rfl
end Go.Proofs.Ythpjihiikkhcjaa
namespace Go.Sp
open Go.RowKit
def liveM (nm : List UInt8) (i c e r : Int) (nm' : List UInt8) (v ch now era : Int) : Bool := nm == nm' && c == ch && r == era && decide (now < e) && decide (v ≤ i)
end Go.Sp
namespace Go.Proofs.Ythpjihiikkhcjaa
open Go.RowKit Go.Sp
set_option maxRecDepth 100000 in
set_option maxHeartbeats 4000000 in
theorem live_any (nm : List UInt8) (i c e r p : Int) (nm' : List UInt8) (t a v ch now era : Int) (w : World) :
    Calls Try.prog 25 #[.agg (tokV nm i c e r), .agg (recV p ⟨nm'.toArray⟩ t a v), .int .i64 ch, .int .i64 now, .int .i64 era] w fun e' w' => e' = .returned (.bool (liveM nm i c e r nm' v ch now era)) ∧ Below w.heap.size w w' := by
  have hb : Below w.heap.size w ((w.alloc (.cells (tokV nm i c e r) 35)).alloc (.cells (recV p ⟨nm'.toArray⟩ t a v) 28)) := ((Below.refl _ _).alloc (Nat.le_refl _) _).alloc (by simp) _
  have hT : Blk ((w.alloc (.cells (tokV nm i c e r) 35)).alloc (.cells (recV p ⟨nm'.toArray⟩ t a v) 28)) w.heap.size (tokV nm i c e r) 35 := (Blk.new w _ 35).alloc _
  have hR : Blk ((w.alloc (.cells (tokV nm i c e r) 35)).alloc (.cells (recV p ⟨nm'.toArray⟩ t a v) 28)) (w.heap.size + 1) (recV p ⟨nm'.toArray⟩ t a v) 28 := Blk.newAt (by simp) _ 28
  obtain ⟨w1, hw1⟩ : ∃ u, u = ((w.alloc (.cells (tokV nm i c e r) 35)).alloc (.cells (recV p ⟨nm'.toArray⟩ t a v) 28)) := ⟨_, rfl⟩
  rw [← hw1] at hb hT hR
  have HW := Lib.hid hw1
  have hwl : (w.alloc (.cells #[.string ⟨nm.toArray⟩, .int .i64 i, .int .i64 c, .int .i64 e, .int .i64 r] 35)).alloc (.cells #[.int .i64 p, .string ⟨nm'.toArray⟩, .slice none 0 0, .int .u32 0, .int .u32 0, .int .u32 0, .int .u32 0, .int .u32 0, .int .u32 0, .int .u32 0, .int .u32 0, .int .u32 0, .int .u32 0, .int .u32 0, .int .u32 0, .int .u32 0, .int .u32 0, .int .u32 0, .int .u32 0, .slice none 0 0, .int .i64 t, .int .i64 a, .int .i64 v] 28) = w1 := hw1.symm
  have HWL := Lib.hid hwl
  clear hw1 hwl HW
  have t0 : w1.cell? ⟨w.heap.size, 0, none⟩ = some (.string ⟨nm.toArray⟩) := by rw [hT.cell]; rfl
  have t1 : w1.cell? ⟨w.heap.size, 1, none⟩ = some (.int .i64 i) := by rw [hT.cell]; rfl
  have t2 : w1.cell? ⟨w.heap.size, 2, none⟩ = some (.int .i64 c) := by rw [hT.cell]; rfl
  have t3 : w1.cell? ⟨w.heap.size, 3, none⟩ = some (.int .i64 e) := by rw [hT.cell]; rfl
  have t4 : w1.cell? ⟨w.heap.size, 4, none⟩ = some (.int .i64 r) := by rw [hT.cell]; rfl
  have r1 : w1.cell? ⟨w.heap.size + 1, 1, none⟩ = some (.string ⟨nm'.toArray⟩) := by rw [hR.cell]; rfl
  have r8 : w1.cell? ⟨w.heap.size + 1, 22, none⟩ = some (.int .i64 v) := by rw [hR.cell]; rfl
  obtain ⟨L, hL⟩ : ∃ L, L = liveM nm i c e r nm' v ch now era := ⟨_, rfl⟩
  rw [← hL]
  have HL := Lib.hid hL
  clear hL
  show Calls Try.prog 25 #[.agg #[_, _, _, _, _], .agg #[_, _, _, _, _, _, _, _, _, _, _, _, _, _, _, _, _, _, _, _, _, _, _], _, _, _] w _
  go_enter Try.func25, Try.ntmps25
  go_wp2_with (refine (show wpList _ _ _ (⟨some 11, _, _, _, _, _⟩ :: _) _ _ from stop_here ?_))
  rw [HWL.out]
  refine Stop.go ?_
  clear HWL hT hR
  go_wp2
  all_goals
    go_ret
    refine ⟨congrArg (fun b => Ending.returned (Value.bool b)) ?_, hb⟩
    rw [HL.out]
    simp [liveM, *]
    try (intros; omega)
set_option maxRecDepth 100000 in
set_option maxHeartbeats 4000000 in
theorem rlive_any (nm : List UInt8) (i c e r p : Int) (nm' : List UInt8) (t a v ch now era : Int) (w : World) :
    Calls Try.prog 27 #[.agg (tokV nm i c e r), .agg (recV p ⟨nm'.toArray⟩ t a v), .int .i64 ch, .int .i64 now, .int .i64 era] w fun e' w' => e' = .returned (.bool (liveM nm i c e r nm' v ch now era)) ∧ Below w.heap.size w w' := by
  have hb : Below w.heap.size w ((w.alloc (.cells (tokV nm i c e r) 35)).alloc (.cells (recV p ⟨nm'.toArray⟩ t a v) 28)) := ((Below.refl _ _).alloc (Nat.le_refl _) _).alloc (by simp) _
  have hT : Blk ((w.alloc (.cells (tokV nm i c e r) 35)).alloc (.cells (recV p ⟨nm'.toArray⟩ t a v) 28)) w.heap.size (tokV nm i c e r) 35 := (Blk.new w _ 35).alloc _
  have hR : Blk ((w.alloc (.cells (tokV nm i c e r) 35)).alloc (.cells (recV p ⟨nm'.toArray⟩ t a v) 28)) (w.heap.size + 1) (recV p ⟨nm'.toArray⟩ t a v) 28 := Blk.newAt (by simp) _ 28
  obtain ⟨w1, hw1⟩ : ∃ u, u = ((w.alloc (.cells (tokV nm i c e r) 35)).alloc (.cells (recV p ⟨nm'.toArray⟩ t a v) 28)) := ⟨_, rfl⟩
  rw [← hw1] at hb hT hR
  have HW := Lib.hid hw1
  have hwl : (w.alloc (.cells #[.string ⟨nm.toArray⟩, .int .i64 i, .int .i64 c, .int .i64 e, .int .i64 r] 35)).alloc (.cells #[.int .i64 p, .string ⟨nm'.toArray⟩, .slice none 0 0, .int .u32 0, .int .u32 0, .int .u32 0, .int .u32 0, .int .u32 0, .int .u32 0, .int .u32 0, .int .u32 0, .int .u32 0, .int .u32 0, .int .u32 0, .int .u32 0, .int .u32 0, .int .u32 0, .int .u32 0, .int .u32 0, .slice none 0 0, .int .i64 t, .int .i64 a, .int .i64 v] 28) = w1 := hw1.symm
  have HWL := Lib.hid hwl
  clear hw1 hwl HW
  have t0 : w1.cell? ⟨w.heap.size, 0, none⟩ = some (.string ⟨nm.toArray⟩) := by rw [hT.cell]; rfl
  have t1 : w1.cell? ⟨w.heap.size, 1, none⟩ = some (.int .i64 i) := by rw [hT.cell]; rfl
  have t2 : w1.cell? ⟨w.heap.size, 2, none⟩ = some (.int .i64 c) := by rw [hT.cell]; rfl
  have t3 : w1.cell? ⟨w.heap.size, 3, none⟩ = some (.int .i64 e) := by rw [hT.cell]; rfl
  have t4 : w1.cell? ⟨w.heap.size, 4, none⟩ = some (.int .i64 r) := by rw [hT.cell]; rfl
  have r1 : w1.cell? ⟨w.heap.size + 1, 1, none⟩ = some (.string ⟨nm'.toArray⟩) := by rw [hR.cell]; rfl
  have r8 : w1.cell? ⟨w.heap.size + 1, 22, none⟩ = some (.int .i64 v) := by rw [hR.cell]; rfl
  obtain ⟨L, hL⟩ : ∃ L, L = liveM nm i c e r nm' v ch now era := ⟨_, rfl⟩
  rw [← hL]
  have HL := Lib.hid hL
  clear hL
  show Calls Try.prog 27 #[.agg #[_, _, _, _, _], .agg #[_, _, _, _, _, _, _, _, _, _, _, _, _, _, _, _, _, _, _, _, _, _, _], _, _, _] w _
  go_enter Try.func27, Try.ntmps27
  go_wp2_with (refine (show wpList _ _ _ (⟨some 11, _, _, _, _, _⟩ :: _) _ _ from stop_here ?_))
  rw [HWL.out]
  refine Stop.go ?_
  clear HWL hT hR
  go_wp2
  all_goals
    go_ret
    refine ⟨congrArg (fun b => Ending.returned (Value.bool b)) ?_, hb⟩
    rw [HL.out]
    simp [liveM, *]
    try (intros; omega)
end Go.Proofs.Ythpjihiikkhcjaa
namespace Go.Sp
open Go.RowKit
theorem bodyB_take (nm : List UInt8) (i c e r : Int) (M : List UInt8) (n : Nat) (h : n ≤ nm.length + 33) : (bodyB nm i c e r ++ M).take n = (bodyB nm i c e r).take n :=
  List.take_append_of_le_length (by rw [flat_cat]; exact h)
theorem read_first : readM [] (issueB [] [97] 1 2 3 4) = (tokV [97] 1 2 3 4, true) := by
  have hl : (macB [] [tokenS, bodyB [97] 1 2 3 4]).length = 16 := macB_length _ _
  have hi : issueB [] [97] 1 2 3 4 = bodyB [97] 1 2 3 4 ++ macB [] [tokenS, bodyB [97] 1 2 3 4] := rfl
  have hlen : (issueB [] [97] 1 2 3 4).length = 50 := by rw [hi, List.length_append, hl, flat_cat]; rfl
  have h0 : (issueB [] [97] 1 2 3 4)[0]? = some 1 := by
    rw [hi]
    generalize macB [] [tokenS, bodyB [97] 1 2 3 4] = M
    rfl
  have hn : ∀ k, k < 4 → numAt (issueB [] [97] 1 2 3 4) 1 k = numAt (bodyB [97] 1 2 3 4) 1 k := fun k hk => by
    unfold numAt
    rw [hi, bodyB_take _ _ _ _ _ _ _ (by simp; omega)]
  have hm : ((issueB [] [97] 1 2 3 4).take 2).drop 1 = [97] := by
    rw [hi, bodyB_take _ _ _ _ _ _ _ (by simp)]
    decide +kernel
  have n0 : numAt (bodyB [97] 1 2 3 4) 1 0 = 1 := by decide +kernel
  have n1 : numAt (bodyB [97] 1 2 3 4) 1 1 = 2 := by decide +kernel
  have n2 : numAt (bodyB [97] 1 2 3 4) 1 2 = 3 := by decide +kernel
  have n3 : numAt (bodyB [97] 1 2 3 4) 1 3 = 4 := by decide +kernel
  unfold readM
  rw [h0]
  simp only [show (1 : UInt8).toNat = 1 from rfl, hlen, hn 0 (by decide), hn 1 (by decide), hn 2 (by decide), hn 3 (by decide), n0, n1, n2, n3, show 1 + 1 = 2 from rfl, hm]
  simp [show namedM [97] = true by decide]
end Go.Sp
namespace Go.Proofs.Ythpjihiikkhcjaa
open Go.RowKit Go.Sp
set_option maxRecDepth 100000 in
set_option maxHeartbeats 4000000 in
theorem known_any (w : World) : Calls Try.prog 16 #[] w fun e w' => e = .returned (.bool true) ∧ Below w.heap.size w w' := by
  have hz : recV 0 ⟨([] : List UInt8).toArray⟩ 0 0 0 = recV 0 ⟨#[]⟩ 0 0 0 := rfl
  go_enter Try.func16, Try.ntmps16
  go_wp2_with fail
  refine (tokens_any 0 ⟨#[]⟩ 0 0 0 25 _ (by decide) (by decide) (by decide)).mono ?_
  rintro _ w1 ⟨rfl, hb1⟩
  rw [show tokM 0 0 25 = (2, 20) by decide]
  go_wp2_with fail
  refine (issue_any _ [] [97] 1 2 3 4 _ (Byt.nil _) (by decide) (by decide) (by decide) (by decide) (by decide) (by decide)).mono ?_
  rintro _ w2 ⟨iv, rfl, hI, hb2⟩
  have hbw2 := hb1.trans (hb2.mono hb1.size)
  clear hb1 hb2
  obtain ⟨I, hII⟩ : ∃ I, I = issueB [] [97] 1 2 3 4 := ⟨_, rfl⟩
  rw [← hII] at hI
  have HI := Lib.hid hII
  clear hII
  obtain ⟨ia, ic, rfl, _, _⟩ := hI.len
  go_wp2_with fail
  refine (read_any _ _ [] I _ (Byt.nil _) hI (by decide)).mono ?_
  rintro _ w3 ⟨rfl, hb3⟩
  have hbw3 := hbw2.trans (hb3.mono hbw2.size)
  rw [HI.out, read_first]
  clear hb3 hbw2 hI HI
  go_wp2_with (refine (show wpList _ _ _ (⟨none, .store 35 (.tmp 4) (.tmp 18), _, _, _, _⟩ :: _) _ _ from stop_here ?_))
  refine Stop.go (wpList_store_blk rfl rfl rfl rfl (Blk.new w3 _ 35) rfl (size35 _ _ _ _ _) (by simp [tokV, Value.oneCell']) ?_)
  intro w4 hT4 hO4
  have hb4 : Below w3.heap.size w3 w4 := ((Below.refl _ _).alloc (Nat.le_refl _) _).trans (hO4.below (Nat.le_refl _) (by simp))
  have hbw4 := hbw3.trans (hb4.mono hbw3.size)
  clear hO4 hb4 hbw3
  go_wp2_with fail
  refine (charge_any 0 ⟨#[]⟩ 5 0 0 0 _ (by decide) (by decide) (by decide)).mono ?_
  rintro _ w5 ⟨rfl, hb5⟩
  rw [show (chM 0 ⟨#[]⟩ 5 0 0 0).1 = recV 0 ⟨#[]⟩ 4 0 0 from rfl, show (chM 0 ⟨#[]⟩ 5 0 0 0).2 = true from rfl]
  have hT5 := hT4.ext hb5
  have hbw5 := hbw4.trans (hb5.mono hbw4.size)
  have hl3 := hT5.lt
  clear hb5 hT4 hbw4
  go_wp2_with (refine (show wpList _ _ _ (⟨none, .store 28 (.tmp 6) (.tmp 23), _, _, _, _⟩ :: _) _ _ from stop_here ?_))
  refine Stop.go (wpList_store_blk rfl rfl rfl rfl (Blk.new w5 _ 28) rfl (size28 _ _ _ _ _) (by simp [recV, Value.oneCell']) ?_)
  intro w6 hC6 hO6
  have hb6 : Below w5.heap.size w5 w6 := ((Below.refl _ _).alloc (Nat.le_refl _) _).trans (hO6.below (Nat.le_refl _) (by simp))
  have hT6 := hT5.ext hb6
  have hbw6 := hbw5.trans (hb6.mono hbw5.size)
  clear hO6 hb6 hT5 hbw5
  have hc4 : w6.cell? ⟨w3.heap.size, 4, none⟩ = some (.int .i64 4) := by rw [hT6.cell]; rfl
  go_wp2_with (refine (show wpList _ _ _ (⟨some 40, .load 35 (.tmp 4), _, _, _, _⟩ :: _) _ _ from stop_here ?_))
  refine Stop.go (wpList_valw rfl (r_loadBlk rfl hT6 Try.underlying35 rfl (size35 _ _ _ _ _)) ?_)
  go_wp2_with fail
  refine (live_any [97] 1 2 3 4 0 [97] 0 0 0 2 2 4 _).mono ?_
  rintro _ w7 ⟨rfl, hb7⟩
  rw [show liveM [97] 1 2 3 4 [97] 0 2 2 4 = true by decide]
  have hT7 := hT6.ext hb7
  have hC7 := hC6.ext hb7
  have hbw7 := hbw6.trans (hb7.mono hbw6.size)
  clear hb7 hT6 hC6 hbw6 hc4
  go_wp2_with (refine (show wpList _ _ _ (⟨some 45, .load 35 (.tmp 4), _, _, _, _⟩ :: _) _ _ from stop_here ?_))
  refine Stop.go (wpList_valw rfl (r_loadBlk rfl hT7 Try.underlying35 rfl (size35 _ _ _ _ _)) ?_)
  go_wp2_with fail
  refine (live_any [97] 1 2 3 4 0 [97] 0 0 0 2 3 4 _).mono ?_
  rintro _ w8 ⟨rfl, hb8⟩
  rw [show liveM [97] 1 2 3 4 [97] 0 2 3 4 = false by decide]
  have hC8 := hC7.ext hb8
  have hbw8 := hbw7.trans (hb8.mono hbw7.size)
  clear hb8 hT7 hC7 hbw7
  have hc6 : w8.cell? ⟨w5.heap.size, 20, none⟩ = some (.int .i64 4) := by rw [hC8.cell]; rfl
  go_wp2
  go_ret
  exact ⟨rfl, hbw8⟩
theorem pf16 : plainFn Try.prog 16 = true := by kernel_rfl
end Go.Proofs.Ythpjihiikkhcjaa
