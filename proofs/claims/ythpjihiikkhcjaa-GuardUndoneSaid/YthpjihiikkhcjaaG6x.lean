/-
  A part of the proofs of this seat: laws of the walk, or contracts of the functions that the statements reach. No conditions but those that each theorem names.
-/
import Derived.Test.YthpjihiikkhcjaaG5x
namespace Go.Sp
open Go.RowKit
/-- A word as bytes, the highest first. -/
def be (x : UInt32) : List UInt8 := [(shr x 24).toUInt8, (shr x 16).toUInt8, (shr x 8).toUInt8, x.toUInt8]
theorem shr_b8 (m d : Int) (k : Nat) (z : Int) (hk : k = 0 ∨ k = 8 ∨ k = 16 ∨ k = 24) (h : z / 2 ^ k = d) (hz : z = m) : (shr (w32 m) k).toUInt8 = b8 d := by
  subst hz h
  have h1 := UInt32.ofInt_toNat z
  have h2 := UInt8.ofInt_toNat (z / 2 ^ k)
  rw [← UInt8.toNat_inj, UInt32.toNat_toUInt8]
  unfold shr b8 w32 at *
  rw [UInt32.toNat_ofNat']
  generalize (UInt32.ofInt z).toNat = a at *
  generalize (UInt8.ofInt (z / 2 ^ k)).toNat = b at *
  rcases hk with rfl | rfl | rfl | rfl
  all_goals
    simp only [Nat.reducePow, Int.reducePow] at *
    omega
theorem be_eight (n : Int) : be (w32 (n / 4294967296)) ++ be (w32 n) = eight n := by
  have h0 : ∀ m : Int, (w32 m).toUInt8 = (shr (w32 m) 0).toUInt8 := fun m => by
    unfold shr; simp
  have e : eight n = [b8 (n / 2 ^ 56), b8 (n / 2 ^ 48), b8 (n / 2 ^ 40), b8 (n / 2 ^ 32), b8 (n / 2 ^ 24), b8 (n / 2 ^ 16), b8 (n / 2 ^ 8), b8 (n / 2 ^ 0)] := rfl
  rw [e]
  unfold be
  rw [h0, h0]
  rw [shr_b8 (n / 4294967296) (n / 2 ^ 56) 24 _ (by simp) (by omega) rfl, shr_b8 (n / 4294967296) (n / 2 ^ 48) 16 _ (by simp) (by omega) rfl, shr_b8 (n / 4294967296) (n / 2 ^ 40) 8 _ (by simp) (by omega) rfl, shr_b8 (n / 4294967296) (n / 2 ^ 32) 0 _ (by simp) (by omega) rfl,
    shr_b8 n (n / 2 ^ 24) 24 _ (by simp) rfl rfl, shr_b8 n (n / 2 ^ 16) 16 _ (by simp) rfl rfl, shr_b8 n (n / 2 ^ 8) 8 _ (by simp) rfl rfl, shr_b8 n (n / 2 ^ 0) 0 _ (by simp) rfl rfl]
  rfl
def S8.wd (s : S8) (i : Nat) : UInt32 := ([s.a, s.b, s.c, s.d, s.e, s.f, s.g, s.h] : List UInt32).getD i 0
/-- The first j words from the highest down, as bytes. -/
def beL (s : S8) (j : Nat) : List UInt8 := (List.range j).flatMap fun i => be (s.wd (7 - i))
theorem beL_succ (s : S8) (j : Nat) : beL s (j + 1) = beL s j ++ be (s.wd (7 - j)) := by simp [beL, List.range_succ]
theorem beL_length (s : S8) : ∀ j : Nat, (beL s j).length = 4 * j
  | 0 => rfl
  | j + 1 => by rw [beL_succ, List.length_append, beL_length s j]; simp [be]; omega
theorem S8.wd_get (s : S8) (i : Nat) (h : i < 8) : s.vals[i]? = some (W (s.wd i)) := by
  obtain rfl | rfl | rfl | rfl | rfl | rfl | rfl | rfl : i = 0 ∨ i = 1 ∨ i = 2 ∨ i = 3 ∨ i = 4 ∨ i = 5 ∨ i = 6 ∨ i = 7 := by omega
  all_goals rfl
theorem Byt.recap {w : World} {a : Option Addr} {n c : Nat} {l : List UInt8} (h : Byt w (.slice a n c) l) (hl : l.length = n) (h0 : 0 < n) : Byt w (.slice a n n) l := by
  rcases h with ⟨h, rfl⟩ | ⟨g, off, cap, hv, h1, h2, h3, h4⟩
  · simp at hl; omega
  · simp only [Value.slice.injEq] at hv
    obtain ⟨rfl, _, rfl⟩ := hv
    exact .inr ⟨g, off, n, by rw [hl], by omega, by omega, h3, h4⟩
theorem r_convWB {ρ : Operand → Value} {d : Option Tmp} {t t' ty : TypeId} {pos : String} {aft : Array Edge} {g : Option (Nat × Bool)} {x : Operand} {P : Program} {w : World} {a : UInt32} (hx : ρ x = W a) (hs : (P.underlying t).isSome = true) (hd : P.underlying t' = some (.int .u8)) : (execOp ρ ⟨d, .convert t t' x, ty, pos, aft, g⟩).run P w = .ok (.value (B a.toUInt8)) w :=
  r_conv hx (run_convert_W_u8 w t t' a hs hd)
end Go.Sp
namespace Go.Proofs.Ythpjihiikkhcjaa
open Go.RowKit Go.Sp
set_option maxRecDepth 100000 in
set_option maxHeartbeats 2000000 in
theorem from_any (n : Int) (w : World) (hn : 0 ≤ n ∧ n ≤ 9223372036854775807) :
    Calls Try.prog 51 #[.int .i64 n] w fun e w' => e = .returned (.agg (S8.mk (w32 n) (w32 (n / 4294967296)) 0 0 0 0 0 0).vals) ∧ Below w.heap.size w w' := by
  have h0 : ¬ n < 0 := by omega
  go_enter Try.func51, Try.ntmps51
  go_wp2
  exact bodyPost_ret (results_cell_row rfl _ _ w.heap.size 26 _ (0, 0) _ rfl ((Blk.new w _ 26).alloc _) Try.underlying26 rfl (by kernel_rfl)) rfl ⟨rfl, ((Below.refl _ _).alloc (Nat.le_refl _) _).alloc (by simp) _⟩
theorem from_neg (n : Int) (w : World) (hn : n < 0) :
    Calls Try.prog 51 #[.int .i64 n] w fun e w' => e = .returned (.agg S8.zero.vals) ∧ Below w.heap.size w w' := by
  go_enter Try.func51, Try.ntmps51
  go_wp2
  exact bodyPost_ret (results_cell_row rfl _ _ w.heap.size 26 _ (0, 0) _ rfl ((Blk.new w _ 26).alloc _) Try.underlying26 rfl (by kernel_rfl)) rfl ⟨rfl, ((Below.refl _ _).alloc (Nat.le_refl _) _).alloc (by simp) _⟩
theorem ar26 : arrOf Try.prog 26 = some 8 := by kernel_rfl
theorem r_buildB4 {ρ : Operand → Value} {d ty pos aft g} {p q r t : Operand} {x y z u4 : UInt8} (u : World) (h1 : ρ p = B x) (h2 : ρ q = B y) (h3 : ρ r = B z) (h4 : ρ t = B u4) :
    (execOp ρ ⟨d, .buildSlice 23 4 #[(0, p), (1, q), (2, r), (3, t)], ty, pos, aft, g⟩).run Try.prog u = .ok (.value (.slice (some ⟨u.heap.size, 0, none⟩) 4 4)) (u.alloc (.cells ([x, y, z, u4].map B).toArray 5)) := by
  simp only [execOp]
  go_simp
def hd50 (i : Nat) : Bool := !([20, 21, 22].contains i)
def S50 (w : World) (s : S8) (o : Value) (l x : List UInt8) : List Value → World → Prop
  | [], u => Blk u w.heap.size s.vals 26 ∧ Below w.heap.size w u ∧ Sp.Own 5 (w.heap.size + 1) u o l
  | [b], u => Blk u w.heap.size s.vals 26 ∧ Below w.heap.size w u ∧ Sp.Own 5 (w.heap.size + 1) u o l ∧ Byt u b x
  | [_, v], u => Blk u w.heap.size s.vals 26 ∧ Below w.heap.size w u ∧ Sp.Own 5 (w.heap.size + 1) u v (l ++ x)
  | [_, v, v2], u => Blk u w.heap.size s.vals 26 ∧ Below w.heap.size w u ∧ Sp.Own 5 (w.heap.size + 1) u v (l ++ x) ∧ v2 = v
  | _, _ => False
set_option maxRecDepth 100000 in
set_option maxHeartbeats 4000000 in
theorem bytes_any (s : S8) (w : World) :
    Calls Try.prog 50 #[.agg s.vals] w fun e w' => ∃ a, e = .returned (.slice a 32 32) ∧ Byt w' (.slice a 32 32) (beL s 8) ∧ Below w.heap.size w w' := by
  have hv : s.vals = #[W s.a, W s.b, W s.c, W s.d, W s.e, W s.f, W s.g, W s.h] := rfl
  have hR : Blk (w.alloc (.cells s.vals 26)) w.heap.size s.vals 26 := Blk.new w _ 26
  have hb : Below w.heap.size w (w.alloc (.cells s.vals 26)) := (Below.refl _ _).alloc (Nat.le_refl _) _
  have hsz : (w.alloc (.cells s.vals 26)).heap.size = w.heap.size + 1 := by simp
  rw [hv]
  go_enter Try.func50, Try.ntmps50
  go_wp2_with (at_make; refine stop_here ?_)
  rw [← hv]
  generalize w.alloc (.cells s.vals 26) = w1 at *
  obtain ⟨i0, hi, hz, hs1, hb1⟩ := byt29.info
  refine Stop.go (wpList_make_own w1 rfl _ _ 23 rfl w1.heap.size 5 i0 (.int .u8 0) 1 Try.underlying23 hi hz hs1 .i64 .i64 32 32 rfl rfl rfl (by rw [hb1]; decide) (by decide) (Nat.le_refl _) ?_)
  intro w2 ho hg
  have ho2 : Sp.Own 5 (w.heap.size + 1) w2 (.slice (some ⟨w1.heap.size, 0, none⟩) 0 32) (beL s 0) := by rw [← hsz]; exact ho
  have hb12 := toBelow hg (Nat.le_refl _) (fun k hk => by cases hk)
  have hR2 := hR.ext hb12
  have hbw2 := hb.trans (hb12.mono hb.size)
  clear hi hz hs1 hb1 ho hg hb12 hR hb hsz hv
  go_wp2
  go_loopw [4, 3] (fun i o wr => ∃ (j : Nat) (k : Int), j ≤ 8 ∧ i = .int .i64 k ∧ k = 7 - (j : Int) ∧ Sp.Own 5 (w.heap.size + 1) wr o (beL s j) ∧ Blk wr w.heap.size s.vals 26 ∧ Below w.heap.size w wr) (fun i _ _ => (intOf i + 1).toNat)
  case atStart => exact ⟨0, 7, by omega, rfl, rfl, ho2, hR2, hbw2⟩
  case round =>
    clear ho2 hR2 hbw2
    obtain ⟨j, k, hj, rfl, hk, ho, hR, hbw⟩ := hrel
    have hl := beL_length s j
    obtain ⟨oa, oc, rfl, hoc, hom⟩ := ho.byt.len
    unfold maxLen at hom
    by_cases hlt : j < 8
    · have hk0 : 0 ≤ k := by omega
      have hkt : k.toNat = 7 - j := by omega
      obtain ⟨x, hx⟩ : ∃ x, x = s.wd (7 - j) := ⟨_, rfl⟩
      have hcx : ∀ u, Blk u w.heap.size s.vals 26 → u.cell? ⟨w.heap.size, 7 - j, none⟩ = some (W x) := fun u h => by rw [h.cell, S8.wd_get s _ (by omega), hx]
      have HBL := Lib.hid (beL_succ s j)
      have HX := Lib.hid hx
      have HL := Lib.hid hl
      have hk7 : k ≤ 7 := by omega
      have HK := Lib.hid hk
      have HKT := Lib.hid hkt
      clear hx hl hk hkt
      have HCX := Lib.hid hcx
      clear hcx
      go_wp2
      refine wp_region_HE hd50 (fun ix => (lookL [.slice oa (beL s j).length oc, .int .i64 k, .pointer (some ⟨w.heap.size, 7 - j, none⟩), W x, W (shr x 24), B (shr x 24).toUInt8, .int .i64 k, .pointer (some ⟨w.heap.size, 7 - j, none⟩), W x, W (shr x 16), B (shr x 16).toUInt8, .int .i64 k, .pointer (some ⟨w.heap.size, 7 - j, none⟩), W x, W (shr x 8), B (shr x 8).toUInt8, .int .i64 k, .pointer (some ⟨w.heap.size, 7 - j, none⟩), W x, B x.toUInt8, undef, undef, undef] ix).getD undef) (fun u => Blk u w.heap.size s.vals 26) (S50 w s (.slice oa (beL s j).length oc) (beL s j) (be x)) (by kernel_rfl) (by kernel_rfl) (by kernel_rfl) ?_ ⟨hR.drew, hbw.drew, ho⟩ ?_
      · intro vs u hu
        rcases vs with _ | ⟨v1, _ | ⟨v2, _ | ⟨v3, _ | _⟩⟩⟩
        · exact hu.1
        · exact hu.1
        · exact hu.1
        · exact hu.1
        · exact hu.elim
      refine HE_head (v := .slice oa (beL s j).length oc) rfl rfl (fun u hu => r_move (rho_base rfl rfl)) ?_
      refine HE_head (v := .int .i64 k) rfl rfl (fun u hu => r_move (rho_base rfl rfl)) ?_
      refine HE_head (v := .pointer (some ⟨w.heap.size, 7 - j, none⟩)) rfl rfl (fun u hu => r_indexArr (o' := 7 - j) (rho_base rfl rfl) (rho_env rfl) ar26 ⟨hk0, by have := HK.out; omega, by have := HKT.out; omega⟩) ?_
      refine HE_head (v := W x) rfl rfl (fun u hu => r_load (rho_env rfl) on24 (HCX.out u hu)) ?_
      refine HE_head (v := W (shr x 24)) rfl rfl (fun u hu => r_shrW (rho_env rfl) rho_const ⟨by decide, by decide⟩) ?_
      refine HE_head (v := B (shr x 24).toUInt8) rfl rfl (fun u hu => r_convWB (rho_env rfl) rfl Try.underlying5) ?_
      refine HE_head (v := .int .i64 k) rfl rfl (fun u hu => r_move (rho_base rfl rfl)) ?_
      refine HE_head (v := .pointer (some ⟨w.heap.size, 7 - j, none⟩)) rfl rfl (fun u hu => r_indexArr (o' := 7 - j) (rho_base rfl rfl) (rho_env rfl) ar26 ⟨hk0, by have := HK.out; omega, by have := HKT.out; omega⟩) ?_
      refine HE_head (v := W x) rfl rfl (fun u hu => r_load (rho_env rfl) on24 (HCX.out u hu)) ?_
      refine HE_head (v := W (shr x 16)) rfl rfl (fun u hu => r_shrW (rho_env rfl) rho_const ⟨by decide, by decide⟩) ?_
      refine HE_head (v := B (shr x 16).toUInt8) rfl rfl (fun u hu => r_convWB (rho_env rfl) rfl Try.underlying5) ?_
      refine HE_head (v := .int .i64 k) rfl rfl (fun u hu => r_move (rho_base rfl rfl)) ?_
      refine HE_head (v := .pointer (some ⟨w.heap.size, 7 - j, none⟩)) rfl rfl (fun u hu => r_indexArr (o' := 7 - j) (rho_base rfl rfl) (rho_env rfl) ar26 ⟨hk0, by have := HK.out; omega, by have := HKT.out; omega⟩) ?_
      refine HE_head (v := W x) rfl rfl (fun u hu => r_load (rho_env rfl) on24 (HCX.out u hu)) ?_
      refine HE_head (v := W (shr x 8)) rfl rfl (fun u hu => r_shrW (rho_env rfl) rho_const ⟨by decide, by decide⟩) ?_
      refine HE_head (v := B (shr x 8).toUInt8) rfl rfl (fun u hu => r_convWB (rho_env rfl) rfl Try.underlying5) ?_
      refine HE_head (v := .int .i64 k) rfl rfl (fun u hu => r_move (rho_base rfl rfl)) ?_
      refine HE_head (v := .pointer (some ⟨w.heap.size, 7 - j, none⟩)) rfl rfl (fun u hu => r_indexArr (o' := 7 - j) (rho_base rfl rfl) (rho_env rfl) ar26 ⟨hk0, by have := HK.out; omega, by have := HKT.out; omega⟩) ?_
      refine HE_head (v := W x) rfl rfl (fun u hu => r_load (rho_env rfl) on24 (HCX.out u hu)) ?_
      refine HE_head (v := B x.toUInt8) rfl rfl (fun u hu => r_convWB (rho_env rfl) rfl Try.underlying5) ?_
      refine HE_run rfl (fun u hu => ?_) fun v1 => ?_
      · have ha := (Below.refl u.heap.size u).alloc (Nat.le_refl _) (.cells (([(shr x 24).toUInt8, (shr x 16).toUInt8, (shr x 8).toUInt8, x.toUInt8] : List UInt8).map B).toArray 5)
        exact ⟨_, _, r_buildB4 u (rho_env rfl) (rho_env rfl) (rho_env rfl) (rho_env rfl), hu.1.ext ha, hu.2.1.trans (ha.mono hu.2.1.size), hu.2.2.below ha, Byt.ofBlk (Blk.new u _ 5) (by simp [maxLen])⟩
      refine HE_run rfl (fun u hu => ?_) fun v2 => ?_
      · have hs0 := hu.1.lt
        obtain ⟨v', u', hr, h1, h2, _⟩ := run_append_byt (P := Try.prog) u byt29 23 (w.heap.size + 1) hu.2.2.1 hu.2.2.2 (by rw [HL.out]; simp [be]; omega) (by omega)
        have hbl : Below (w.heap.size + 1) u u' := toBelow h2 (by omega) (fun g hgg => (hu.2.2.1.lt g hgg).1)
        exact ⟨v', u', r_append (rho_env rfl) (rho_env rfl) hr, hu.1.below hbl (by omega), hu.2.1.trans (hbl.mono (by omega)), h1⟩
      refine HE_run rfl (fun u hu => ⟨_, _, r_assign (rho_env rfl), hu.1, hu.2.1, hu.2.2, rfl⟩) fun v3 => ?_
      refine HE_nil fun u hu => ?_
      rw [withEnv_norm (rfl : setsL _ 0 _ = [_, _, _, _, _, _, _, _, _, _, _, _, _, _, _, _, _, _, _, _, _, _, _, _, _, _, _, _, _, _, _, _, _, _])]
      obtain ⟨hR3, hb3, ho3, rfl⟩ := hu
      clear hR hbw ho
      go_wp2
      go_roundw
      case rel => exact ⟨j + 1, _, by omega, rfl, by have := HK.out; omega, by rw [HBL.out, ← HX.out]; exact ho3, hR3, hb3⟩
      case measure => simp [intOf]; omega
    · obtain rfl : j = 8 := by omega
      have hkn : k < 0 := by omega
      have HOC := Lib.hid hoc
      rw [hl] at ho hoc ⊢
      have hoc32 : 32 ≤ oc := by omega
      clear hl hk
      go_wp2
      go_ret
      exact ⟨oa, rfl, Byt.recap ho.byt (beL_length s 8) (by decide), hbw⟩
theorem pf50 : plainFn Try.prog 50 = true := by kernel_rfl
theorem pf51 : plainFn Try.prog 51 = true := by kernel_rfl
set_option maxRecDepth 100000 in
set_option maxHeartbeats 2000000 in
theorem geight_any (n : Int) (w : World) (hn : 0 ≤ n ∧ n ≤ 9223372036854775807) :
    Calls Try.prog 38 #[.int .i64 n] w fun e w' => ∃ v', e = .returned v' ∧ Byt w' v' (eight n) ∧ Below w.heap.size w w' := by
  go_enter Try.func38, Try.ntmps38
  go_wp2_with fail
  refine (from_any n _ hn).mono ?_
  rintro _ w1 ⟨rfl, hb1⟩
  go_wp2_with fail
  refine (bytes_any _ _).mono ?_
  rintro _ w2 ⟨oa, rfl, hB, hb2⟩
  have hbw := hb1.trans (hb2.mono hb1.size)
  go_wp2_with (refine (show wpList _ _ _ (⟨some 6, _, _, _, _, _⟩ :: _) _ _ from stop_here ?_))
  refine Stop.go (wpList_val rfl (r_slL (lo := 24) sl1_29 rfl rfl (by decide)) ?_)
  have hcut := hB.cut 24 32 (by decide) (by rw [beL_length]; decide)
  have he : ((beL (S8.mk (w32 n) (w32 (n / 4294967296)) 0 0 0 0 0 0) 8).take 32).drop 24 = eight n := by
    rw [← be_eight]; rfl
  rw [he] at hcut
  go_wp2
  go_ret
  exact ⟨_, rfl, hcut, hbw⟩
theorem geight_neg (n : Int) (w : World) (hn : n < 0) :
    Calls Try.prog 38 #[.int .i64 n] w fun e w' => ∃ v', e = .returned v' ∧ Byt w' v' (List.replicate 8 0) ∧ Below w.heap.size w w' := by
  go_enter Try.func38, Try.ntmps38
  go_wp2_with fail
  refine (from_neg n _ hn).mono ?_
  rintro _ w1 ⟨rfl, hb1⟩
  go_wp2_with fail
  refine (bytes_any _ _).mono ?_
  rintro _ w2 ⟨oa, rfl, hB, hb2⟩
  have hbw := hb1.trans (hb2.mono hb1.size)
  go_wp2_with (refine (show wpList _ _ _ (⟨some 6, _, _, _, _, _⟩ :: _) _ _ from stop_here ?_))
  refine Stop.go (wpList_val rfl (r_slL (lo := 24) sl1_29 rfl rfl (by decide)) ?_)
  have hcut := hB.cut 24 32 (by decide) (by rw [beL_length]; decide)
  have he : ((beL S8.zero 8).take 32).drop 24 = List.replicate 8 0 := by decide
  rw [he] at hcut
  go_wp2
  go_ret
  exact ⟨_, rfl, hcut, hbw⟩
theorem pf38 : plainFn Try.prog 38 = true := by kernel_rfl
end Go.Proofs.Ythpjihiikkhcjaa
