/-
  A part of the proofs of this seat: laws of the walk, or contracts of the functions that the statements reach. No conditions but those that each theorem names.
-/
import Derived.Test.YtbbpcgodjncflaaL9
import Derived.Test.YtbbpcgodjncflaaL7
namespace Go.Sp
open Go.RowKit
theorem Own.extM {bt e : TypeId} {n m : Nat} {w w' : World} {v : Value} {l : List UInt8} (h : Sp.Own e n w v l) (he : e ≠ bt) (x : ExtM bt m w w') : Sp.Own e n w' v l := by
  refine ⟨h.1, ?_⟩
  rcases h.2 with h2 | ⟨g, cap, cur, hv, hb, hg, hr⟩
  · exact .inl h2
  · obtain ⟨fr, h', hf⟩ := x.keep g cur e (0, 0) hg
    rw [hf he] at h'
    exact .inr ⟨g, cap, cur, hv, hb, h', hr⟩
/-- Two slices of the call's own, one byte written through the one: the other is one of as many bytes. -/
theorem Own.other {e : TypeId} {n : Nat} {w : World} {v : Value} {l : List UInt8} (h : Sp.Own e n w v l) {g : Nat} (q : Nat) (y : UInt8) : ∃ l', l'.length = l.length ∧ Sp.Own e n (w.setCell ⟨g, q, none⟩ (B y)) v l' := by
  by_cases hg : v.ownBlock = some g
  · rcases h.2 with ⟨rfl, h0⟩ | ⟨g', cap, cur, rfl, hb, hgg, hr⟩
    · cases hg
    · simp [Value.ownBlock] at hg
      subst hg
      exact ⟨l.set q y, by simp, Own.set h q y⟩
  · exact ⟨l, rfl, h.only ((Only.refl g w).set (.inl rfl) _) hg⟩
end Go.Sp
namespace Go.Proofs.Ytbbpcgodjncflaa
open Go.RowKit Go.Sp
theorem pf20 : plainFn Try.prog 20 = true := by kernel_rfl
/-- A new row of noughts. -/
theorem r_make29 {ρ : Operand → Value} {d : Option Tmp} {ty : TypeId} {pos : String} {aft : Array Edge} {g : Option (Nat × Bool)} {x : Operand} {n : Nat} (w : World) (hx : ρ x = .int .i64 n) (hn : n ≤ 1000) :
    (execOp ρ ⟨d, .makeSlice 29 x x, ty, pos, aft, g⟩).run Try.prog w = .ok (.value (.slice (some ⟨w.heap.size, 0, none⟩) n n)) (w.alloc (.cells ((List.replicate n (0 : UInt8)).map B).toArray 5)) := by
  obtain ⟨i, hi, hz, hs1, hb1⟩ := byt29.info
  have hr := run_make (P := Try.prog) w 29 5 i (.int .u8 0) Try.underlying29 hi hz .i64 .i64 n n (by omega) (Int.le_refl _) (by rw [hb1]; omega) (by omega)
  rw [hs1] at hr
  simp only [Int.toNat_natCast] at hr
  have hmz : madeCells (Value.int .u8 0).cells (n * 1) = ((List.replicate n (0 : UInt8)).map B).toArray := madeZ n
  rw [hmz] at hr
  simp [execOp, hx, hr, Result.andThen]
theorem own_make (w : World) (m n : Nat) (hm : m ≤ w.heap.size) (hn : n ≤ 1000) : Sp.Own 5 m (w.alloc (.cells ((List.replicate n (0 : UInt8)).map B).toArray 5)) (.slice (some ⟨w.heap.size, 0, none⟩) n n) (List.replicate n 0) := by
  have := Own.lit 5 m w (List.replicate n 0) hm (by simp [maxLen]; omega)
  simpa using this
def ex10a (j : Nat) : Bool := !([2, 5, 6, 7].contains j)
def V10a (n q1 q2 : Nat) : Nat → Value → World → Prop
  | 2, v, u => Sp.Own 5 n u v (List.replicate q1 0)
  | 6, v, u => Sp.Own 5 n u v (List.replicate q1 0)
  | _, v, u => Sp.Own 5 n u v (List.replicate q2 0)
theorem V10a_mono (n m q1 q2 : Nat) (j : Nat) (v : Value) (u u' : World) (e : ExtM 0 m u u') (h : V10a n q1 q2 j v u) : V10a n q1 q2 j v u' := by
  unfold V10a at *
  split at h <;> exact Own.extM h (by decide) e
def ex10 (j : Nat) : Bool := !([14, 18].contains j)
def V10 (m : List UInt8) : Nat → Value → World → Prop := fun _ v u => Lst u v [m]
set_option maxRecDepth 100000 in
set_option maxHeartbeats 2000000 in
theorem blocks_any (a n y : Int) (w : World) (ha : -9223372036854775808 ≤ a ∧ a ≤ 9223372036854775807) (hn : -9223372036854775808 ≤ n ∧ n ≤ 9223372036854775807) (hy : 0 ≤ y ∧ y < 256) :
    Calls Try.prog 10 #[.int .i64 a, .int .i64 n, .int .u8 y] w fun e w' => e = .returned (.bool true) ∧ Below w.heap.size w w' := by
  rw [B_ofInt y hy.1 hy.2]
  generalize UInt8.ofNat y.toNat = b
  obtain ⟨q1, hq1, hq1'⟩ : ∃ q : Nat, a % 40 = q ∧ q < 40 := ⟨(a % 40).toNat, by omega, by omega⟩
  obtain ⟨q2, hq2, hq2'⟩ : ∃ q : Nat, n % 70 = q ∧ q < 70 := ⟨(n % 70).toNat, by omega, by omega⟩
  have HQ1 := Lib.hid hq1
  have HQ2 := Lib.hid hq2
  clear hq1 hq2 hy
  go_enter Try.func10, Try.ntmps10
  go_wp2_with fail
  refine (known_any _).mono ?_
  rintro _ w1 ⟨rfl, hbw1⟩
  go_wp2
  have hx : ∀ {u u' : World}, ExtM 0 w1.heap.size w1 u → Below u.heap.size u u' → ExtM 0 w1.heap.size u u' := fun h k => ExtM.of k h.below.size
  refine wp_region_VE (bt := 0) ex10a (fun j => (lookL [.int .i64 a, .int .i64 q1, undef, .int .i64 n, .int .i64 q2, undef, undef, undef] j).getD undef) (V10a w1.heap.size q1 q2) (by kernel_rfl) (by kernel_rfl) (by kernel_rfl) (V10a_mono _ _ _ _) fun x => ?_
  refine VE_ex (v := .int .i64 a) rfl rfl rfl (fun u hu hf => r_move (rho_base rfl rfl)) ?_
  refine VE_call (v := .int .i64 q1) (f := 20) (args := #[.int .i64 a, .int .i64 40]) rfl rfl rfl (fun u => r_call pf20 (map2 (rho_env rfl) rho_const) rfl) (fun u hu hf => ?_) ?_
  · refine (within_any a 40 ha (by decide) (by decide) u).mono ?_
    rintro _ u' ⟨rfl, rfl⟩
    exact ⟨by rw [HQ1.out], ExtM.refl _ _ _⟩
  refine VE_any rfl rfl (fun u hu hf => ?_) ?_
  · exact ⟨_, _, r_make29 (n := q1) u (rho_env rfl) (by omega), hx hu ((Below.refl _ _).alloc (Nat.le_refl _) _), own_make u _ _ hu.below.size (by omega)⟩
  refine VE_ex (v := .int .i64 n) rfl rfl rfl (fun u hu hf => r_move (rho_base rfl rfl)) ?_
  refine VE_call (v := .int .i64 q2) (f := 20) (args := #[.int .i64 n, .int .i64 70]) rfl rfl rfl (fun u => r_call pf20 (map2 (rho_env rfl) rho_const) rfl) (fun u hu hf => ?_) ?_
  · refine (within_any n 70 hn (by decide) (by decide) u).mono ?_
    rintro _ u' ⟨rfl, rfl⟩
    exact ⟨by rw [HQ2.out], ExtM.refl _ _ _⟩
  refine VE_any rfl rfl (fun u hu hf => ?_) ?_
  · exact ⟨_, _, r_make29 (n := q2) u (rho_env rfl) (by omega), hx hu ((Below.refl _ _).alloc (Nat.le_refl _) _), own_make u _ _ hu.below.size (by omega)⟩
  refine VE_any rfl rfl (fun u hu hf => ?_) ?_
  · exact ⟨_, _, r_assign (rho_env rfl), ExtM.refl _ _ _, hf 2 rfl (by decide) rfl⟩
  refine VE_any rfl rfl (fun u hu hf => ?_) ?_
  · exact ⟨_, _, r_assign (rho_env rfl), ExtM.refl _ _ _, hf 5 rfl (by decide) rfl⟩
  refine VE_nil fun u hu hf => ?_
  rw [withEnv_norm (rfl : setsL _ 0 _ = [_, _, _, _, _, _, _, _, _, _, _, _, _, _, _, _, _, _, _, _, _, _, _, _, _, _, _, _, _, _, _, _, _, _, _, _, _, _, _, _, _, _, _, _, _, _, _, _, _, _, _, _, _, _, _, _, _, _, _, _, _, _, _, _, _, _])]
  have hk : Sp.Own 5 w1.heap.size u (x 6) (List.replicate q1 0) := hf 6 (by decide) rfl
  have hm : Sp.Own 5 w1.heap.size u (x 7) (List.replicate q2 0) := hf 7 (by decide) rfl
  have hbw2 := hbw1.trans (hu.below.mono hbw1.size)
  have hsz1 := hbw1.size
  clear hf hx hu hbw1
  generalize x 2 = x2
  generalize x 5 = x5
  generalize x 6 = kv at *
  generalize x 7 = mv at *
  clear x
  obtain ⟨ka, kc, rfl, _, hkm⟩ := hk.byt.len
  obtain ⟨ma, mc, rfl, _, hmm⟩ := hm.byt.len
  unfold maxLen at hkm hmm
  simp only [List.length_replicate] at *
  go_wp2
  go_loopw [9] (fun i wr => ∃ (j : Nat) (kl ml : List UInt8), j ≤ q2 ∧ i = .int .i64 j ∧ kl.length = q1 ∧ ml.length = q2 ∧ Sp.Own 5 w1.heap.size wr (.slice ka q1 kc) kl ∧ Sp.Own 5 w1.heap.size wr (.slice ma q2 mc) ml ∧ Below w.heap.size w wr) (fun i _ => (q2 - intOf i).toNat)
  case atStart => exact ⟨0, _, _, by omega, rfl, by simp, by simp, hk, hm, hbw2⟩
  case round =>
    clear hk hm hbw2
    obtain ⟨j, kl, ml, hj, rfl, hkl, hml, hk, hm, hbw⟩ := hrel
    have HKL := Lib.hid hkl
    have HML := Lib.hid hml
    clear hkl hml
    by_cases hlt : j < q2
    · have hjl : j < ml.length := by rw [HML.out]; exact hlt
      obtain ⟨g, c', he, hgb, hgl, _, _⟩ := Own.form hm (by omega)
      rw [HML.out] at he
      simp only [Value.slice.injEq, true_and] at he
      obtain ⟨rfl, rfl⟩ := he
      have hcx := Own.cell hm j hjl
      have hfx := Own.frozen hm j
      have hlt' : (j : Int) < (q2 : Int) := by omega
      have hj0 : (0 : Int) ≤ j := by omega
      go_wp2
      go_roundw
      case rel =>
        obtain ⟨kl', h1, h2⟩ := Own.other hk (g := g) j (b + b8 (j : Int))
        exact ⟨j + 1, kl', ml.set j (b + b8 (j : Int)), by omega, by go_num, by rw [h1, HKL.out], by rw [List.length_set, HML.out], h2, Own.set hm j _, hbw.setCell (p := ⟨g, j, none⟩) (by show _ ≤ g; omega) _⟩
      case measure => simp [intOf]; omega
    · have hge : ¬ ((j : Int) < (q2 : Int)) := by omega
      clear hlt
      have hkq : kl.length = q1 := HKL.out
      have hmq : ml.length = q2 := HML.out
      go_wp2_with fail
      refine (new_any _ kl _ hk.byt (by omega)).mono ?_
      rintro _ v2 ⟨p, wv, rfl, hpw, hb2, hpB, hpY, hpN⟩
      have hk2 := hk.below hb2
      have hm2 := hm.below hb2
      have hbw2 := hbw.trans (hb2.mono hbw.size)
      have hszp := hbw.size
      have hltk := hk.lt
      have hltm := hm.lt
      have HLTK := Lib.hid hltk
      have HLTM := Lib.hid hltm
      clear hk hm hb2 hbw hltk hltm
      go_wp2_with fail
      refine (write_any p _ _ _ [] ml _ hpB hpY hm2.byt (by simp; omega)).mono ?_
      rintro _ v3 ⟨rfl, hO3, wv3, hpB3, hpY3, hpN3, _⟩
      have hk3 := hk2.only hO3 (fun e => by have := HLTK.out _ e; omega)
      have hm3 := hm2.only hO3 (fun e => by have := HLTM.out _ e; omega)
      have hbw3 := hbw2.trans (hO3.below (by omega) hbw2.size)
      rw [List.nil_append] at hpB3 hpY3
      have hw16 : (absAll (keyS kl) ml).2.length < 16 := by rw [absAll_waits]; omega
      clear hpB hpY hpN hO3 hk2 hm2 hbw2
      obtain ⟨A1, hA1⟩ : ∃ A, A = rawB kl ml := ⟨_, rfl⟩
      obtain ⟨A2, hA2⟩ : ∃ A, A = macB kl [ml] := ⟨_, rfl⟩
      have hs1 : sumB (absAll (keyS kl) ml).1 (absAll (keyS kl) ml).2 = A1 := by
        have := sumB_abs (keyS kl) ml []
        rw [List.append_nil, List.append_nil] at this
        rw [hA1, rawB_eq]; exact this
      have h11 : A1.length = 16 := by rw [hA1, rawB_length]
      have h12 : A2.length = 16 := by rw [hA2, macB_length]
      have i1 : (Try.prog.info? 35).map (·.size) = some (A1.map B).toArray.size := by rw [show (A1.map B).toArray.size = 16 by simp [h11]]; kernel_rfl
      have z1 : ((List.replicate 16 (0 : UInt8)).map B).toArray.size = (A1.map B).toArray.size := by simp [h11]
      have HA1 := Lib.hid hA1
      have HA2 := Lib.hid hA2
      have HS1 := Lib.hid hs1
      have L1 := Lib.hid h11
      have L2 := Lib.hid h12
      have I1 := Lib.hid i1
      have Z1 := Lib.hid z1
      have HW := Lib.hid hw16
      have KQ := Lib.hid hkq
      have MQ := Lib.hid hmq
      clear hA1 hA2 hs1 h11 h12 i1 z1 hw16 hkq hmq
      generalize absAll (keyS kl) ml = AB at *
      go_wp2_with fail
      refine (sum_any p _ _ _ _ hpB3 hpY3 HW.out).mono ?_
      rintro _ v4 ⟨rfl, hb4⟩
      rw [HS1.out]
      have hk4 := hk3.below hb4
      have hm4 := hm3.below hb4
      have hpB4 := hpB3.ext hb4
      have hpY4 := hpY3.ext hb4
      have hbw4 := hbw3.trans (hb4.mono hbw3.size)
      clear hk3 hm3 hpB3 hpY3 hbw3 hb4
      go_wp2_with (refine (show wpList _ _ _ (⟨none, .store 35 (.tmp 11) (.tmp 41), _, _, _, _⟩ :: _) _ _ from stop_here ?_))
      refine Stop.go (wpList_store_blk rfl rfl rfl rfl (Blk.new v4 _ 35) Z1.out I1.out (bytes_one _) ?_)
      intro v5 hR5 hO5
      have hb5 : Below v4.heap.size v4 v5 := ((Below.refl _ _).alloc (Nat.le_refl _) _).trans (hO5.below (Nat.le_refl _) (by simp))
      have hk5 := hk4.below hb5
      have hm5 := hm4.below hb5
      have hpB5 := hpB4.ext hb5
      have hpY5 := hpY4.ext hb5
      have hbw5 := hbw4.trans (hb5.mono hbw4.size)
      have hpl4 := hpB4.lt
      clear hk4 hm4 hpB4 hpY4 hbw4 hb5 hO5
      go_wp2_with fail
      refine (write_any p _ _ _ _ [] _ hpB5 hpY5 (Byt.nil _) (by have := HW.out; simp; omega)).mono ?_
      rintro _ v6 ⟨rfl, hO6, wv6, hpB6, hpY6, hpN6, _⟩
      rw [List.append_nil, absAll_lt HW.out] at hpB6 hpY6
      have hk6 := hk5.only hO6 (fun e => by have := HLTK.out _ e; omega)
      have hm6 := hm5.only hO6 (fun e => by have := HLTM.out _ e; omega)
      have hR6 := hR5.only hO6 (by omega)
      have hbw6 := hbw5.trans (hO6.below (by omega) hbw5.size)
      clear hk5 hm5 hpB5 hpY5 hR5 hbw5 hO6 hpN6
      go_wp2
      have hx : ∀ {u u' : World}, ExtM 5 v6.heap.size v6 u → Below u.heap.size u u' → ExtM 5 v6.heap.size u u' := fun h k => ExtM.of k h.below.size
      refine wp_region_VE (bt := 5) ex10 (fun j => (lookL [.agg (A1.map B).toArray, .slice ka q1 kc, .slice ma q2 mc, .agg (A1.map B).toArray, .bool true, .bool true, .pointer (some ⟨p, 0, none⟩), .agg (A1.map B).toArray, .agg (A1.map B).toArray, .bool true, .bool true, .bool true, .slice ka q1 kc, .slice ma q2 mc, undef, .agg (A2.map B).toArray, .slice ka q1 kc, .slice ma q2 mc, undef, .agg (A2.map B).toArray, .bool true, .bool true, .bool true] j).getD undef) (V10 ml) (by kernel_rfl) (by kernel_rfl) (by kernel_rfl) (fun _ _ _ _ e h => Lst.extM h e) fun x => ?_
      refine VE_ex (v := .agg (A1.map B).toArray) rfl rfl rfl (fun u hu hf => r_loadBlk (rho_base rfl rfl) (hR6.ext hu.below) Try.underlying35 rfl I1.out) ?_
      refine VE_ex (v := .slice ka q1 kc) rfl rfl rfl (fun u hu hf => r_move (rho_base rfl rfl)) ?_
      refine VE_ex (v := .slice ma q2 mc) rfl rfl rfl (fun u hu hf => r_move (rho_base rfl rfl)) ?_
      refine VE_call (v := .agg (A1.map B).toArray) (f := 23) (args := #[.slice ka q1 kc, .slice ma q2 mc]) rfl rfl rfl (fun u => r_call pf23 (map2 (rho_env rfl) (rho_env rfl)) rfl) (fun u hu hf => ?_) ?_
      · refine (raw_any _ _ kl ml u (hk6.byt.extM hu) (hm6.byt.extM hu) (by have := KQ.out; omega) (by have := MQ.out; omega)).mono ?_
        rintro _ u' ⟨rfl, hb⟩
        exact ⟨by rw [HA1.out], hx hu hb⟩
      refine VE_ex (v := .bool true) rfl rfl rfl (fun u hu hf => (r_eqlB arA35 (rho_env rfl) (rho_env rfl) L1.out L1.out).trans (by simp)) ?_
      refine VE_ex (v := .bool true) rfl rfl rfl (fun u hu hf => r_move (rho_env rfl)) ?_
      refine VE_ex (v := .pointer (some ⟨p, 0, none⟩)) rfl rfl rfl (fun u hu hf => r_move (rho_base rfl rfl)) ?_
      refine VE_call (v := .agg (A1.map B).toArray) (f := 22) (args := #[.pointer (some ⟨p, 0, none⟩)]) rfl rfl rfl (fun u => r_call pf22 (map1 (rho_env rfl)) rfl) (fun u hu hf => ?_) ?_
      · refine (sum_any p _ _ _ u (hpB6.ext hu.below) (hpY6.extM hu) HW.out).mono ?_
        rintro _ u' ⟨rfl, hb⟩
        exact ⟨by rw [HS1.out], hx hu hb⟩
      refine VE_ex (v := .agg (A1.map B).toArray) rfl rfl rfl (fun u hu hf => r_loadBlk (rho_base rfl rfl) (hR6.ext hu.below) Try.underlying35 rfl I1.out) ?_
      refine VE_ex (v := .bool true) rfl rfl rfl (fun u hu hf => (r_eqlB arA35 (rho_env rfl) (rho_env rfl) L1.out L1.out).trans (by simp)) ?_
      refine VE_ex (v := .bool true) rfl rfl rfl (fun u hu hf => r_pickT (rho_env rfl) (rho_env rfl)) ?_
      refine VE_ex (v := .bool true) rfl rfl rfl (fun u hu hf => r_move (rho_env rfl)) ?_
      refine VE_ex (v := .slice ka q1 kc) rfl rfl rfl (fun u hu hf => r_move (rho_base rfl rfl)) ?_
      refine VE_ex (v := .slice ma q2 mc) rfl rfl rfl (fun u hu hf => r_move (rho_base rfl rfl)) ?_
      refine VE_any rfl rfl (fun u hu hf => ?_) ?_
      · exact ⟨_, _, r_build39 u (rho_env rfl), hx hu ((Below.refl _ _).alloc (Nat.le_refl _) _), Lst.one (hm6.byt.extM hu)⟩
      refine VE_call (v := .agg (A2.map B).toArray) (f := 24) (args := #[.slice ka q1 kc, x 14]) rfl rfl rfl (fun u => r_call pf24 (map2 (rho_env rfl) (rho_env rfl)) rfl) (fun u hu hf => ?_) ?_
      · refine (mac_any _ _ kl [ml] u (hk6.byt.extM hu) (hf 14 rfl (by decide) rfl) (by have := KQ.out; omega) (len1 (by have := MQ.out; omega))).mono ?_
        rintro _ u' ⟨rfl, hb⟩
        exact ⟨by rw [HA2.out], hx hu hb⟩
      refine VE_ex (v := .slice ka q1 kc) rfl rfl rfl (fun u hu hf => r_move (rho_base rfl rfl)) ?_
      refine VE_ex (v := .slice ma q2 mc) rfl rfl rfl (fun u hu hf => r_move (rho_base rfl rfl)) ?_
      refine VE_any rfl rfl (fun u hu hf => ?_) ?_
      · exact ⟨_, _, r_build39 u (rho_env rfl), hx hu ((Below.refl _ _).alloc (Nat.le_refl _) _), Lst.one (hm6.byt.extM hu)⟩
      refine VE_call (v := .agg (A2.map B).toArray) (f := 25) (args := #[.slice ka q1 kc, x 18]) rfl rfl rfl (fun u => r_call pf25 (map2 (rho_env rfl) (rho_env rfl)) rfl) (fun u hu hf => ?_) ?_
      · refine (rmac_any _ _ kl [ml] u (hk6.byt.extM hu) (by have := KQ.out; omega) (hf 18 rfl (by decide) rfl) (by rw [flat1]; have := MQ.out; omega)).mono ?_
        rintro _ u' ⟨rfl, hb⟩
        exact ⟨by rw [HA2.out], hx hu hb⟩
      refine VE_ex (v := .bool true) rfl rfl rfl (fun u hu hf => (r_eqlB arA35 (rho_env rfl) (rho_env rfl) L2.out L2.out).trans (by simp)) ?_
      refine VE_ex (v := .bool true) rfl rfl rfl (fun u hu hf => r_pickT (rho_env rfl) (rho_env rfl)) ?_
      refine VE_ex (v := .bool true) rfl rfl rfl (fun u hu hf => r_assign (rho_env rfl)) ?_
      refine VE_nil fun u hu hf => ?_
      rw [withEnv_norm (rfl : setsL _ 0 _ = [_, _, _, _, _, _, _, _, _, _, _, _, _, _, _, _, _, _, _, _, _, _, _, _, _, _, _, _, _, _, _, _, _, _, _, _, _, _, _, _, _, _, _, _, _, _, _, _, _, _, _, _, _, _, _, _, _, _, _, _, _, _, _, _, _, _])]
      have hbu := hbw6.trans (hu.below.mono hbw6.size)
      clear hk6 hm6 hpB6 hpY6 hR6 hbw6 hx hf hu
      go_wp2
      go_ret
      exact ⟨rfl, hbu⟩
end Go.Proofs.Ytbbpcgodjncflaa
