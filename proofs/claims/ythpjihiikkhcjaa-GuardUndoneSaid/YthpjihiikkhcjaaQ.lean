/-
  A part of the proofs of this seat: laws of the walk, or contracts of the functions that the statements reach. No conditions but those that each theorem names.
-/
import Derived.Test.YthpjihiikkhcjaaP
import Derived.Test.YthpjihiikkhcjaaFacts
namespace Go.Proofs.Ythpjihiikkhcjaa
open Go.RowKit Go.Sp
/-- What the rounds have made of the words. -/
def takeV (s : S8) (b0 b1 b2 b3 b4 b5 b6 b7 b8 b9 b10 b11 b12 b13 b14 b15 : UInt8) : Nat → Array Value
  | 0 => #[W s.a, W s.b, W s.c, W s.d, W s.e, W s.f, W s.g, W s.h]
  | 1 => #[W (s.a ^^^ le b0 b1 b2 b3), W s.b, W s.c, W s.d, W s.e, W s.f, W s.g, W s.h]
  | 2 => #[W (s.a ^^^ le b0 b1 b2 b3), W (s.b ^^^ le b4 b5 b6 b7), W s.c, W s.d, W s.e, W s.f, W s.g, W s.h]
  | 3 => #[W (s.a ^^^ le b0 b1 b2 b3), W (s.b ^^^ le b4 b5 b6 b7), W (s.c ^^^ le b8 b9 b10 b11), W s.d, W s.e, W s.f, W s.g, W s.h]
  | _ => #[W (s.a ^^^ le b0 b1 b2 b3), W (s.b ^^^ le b4 b5 b6 b7), W (s.c ^^^ le b8 b9 b10 b11), W (s.d ^^^ le b12 b13 b14 b15), W s.e, W s.f, W s.g, W s.h]
theorem sixteen (l : List UInt8) (h : 16 ≤ l.length) : ∃ b0 b1 b2 b3 b4 b5 b6 b7 b8 b9 b10 b11 b12 b13 b14 b15 r, l = [b0, b1, b2, b3, b4, b5, b6, b7, b8, b9, b10, b11, b12, b13, b14, b15] ++ r := by
  rcases l with _ | ⟨b0, l⟩
  · simp at h
  rcases l with _ | ⟨b1, l⟩
  · simp at h
  rcases l with _ | ⟨b2, l⟩
  · simp at h
  rcases l with _ | ⟨b3, l⟩
  · simp at h
  rcases l with _ | ⟨b4, l⟩
  · simp at h
  rcases l with _ | ⟨b5, l⟩
  · simp at h
  rcases l with _ | ⟨b6, l⟩
  · simp at h
  rcases l with _ | ⟨b7, l⟩
  · simp at h
  rcases l with _ | ⟨b8, l⟩
  · simp at h
  rcases l with _ | ⟨b9, l⟩
  · simp at h
  rcases l with _ | ⟨b10, l⟩
  · simp at h
  rcases l with _ | ⟨b11, l⟩
  · simp at h
  rcases l with _ | ⟨b12, l⟩
  · simp at h
  rcases l with _ | ⟨b13, l⟩
  · simp at h
  rcases l with _ | ⟨b14, l⟩
  · simp at h
  rcases l with _ | ⟨b15, l⟩
  · simp at h
  exact ⟨b0, b1, b2, b3, b4, b5, b6, b7, b8, b9, b10, b11, b12, b13, b14, b15, l, rfl⟩
set_option maxRecDepth 100000 in
set_option maxHeartbeats 4000000 in
theorem raw_any (kv bv : Value) (key b : List UInt8) (w : World) (hk : Byt w kv key) (hb : Byt w bv b) (hkl : key.length ≤ 549755813888) (hbl : b.length ≤ 549755813888) :
    Calls Try.prog 55 #[kv, bv] w fun e w' => e = .returned (.agg ((rawB key b).map B).toArray) ∧ Below w.heap.size w w' := by
  have HK := Lib.hid hk
  have HB := Lib.hid hb
  obtain ⟨ka, kc, rfl, _, hkm⟩ := hk.len
  obtain ⟨ba, bc, rfl, _, hbm⟩ := hb.len
  clear hk hb
  go_enter Try.func55, Try.ntmps55
  go_wp2_with fail
  refine (eight_any _ _).mono ?_
  rintro _ w1 ⟨v1, rfl, ho1, hb1⟩
  have hR1 : Blk w1 w.heap.size ((List.replicate 16 (0 : UInt8)).map B).toArray 65 := (Blk.new w _ 65).ext hb1
  have hl1 : Below w.heap.size w w1 := ((Below.refl _ _).alloc (Nat.le_refl _) _).trans (hb1.mono (by simp))
  simp only [World.size_alloc] at ho1
  have hp1 := hR1.lt
  clear hb1
  go_wp2_with (at_builtin; refine stop_here ?_)
  refine Stop.go (wpList_append_byt rfl rfl byt29 ho1 (HK.out.ext hl1) rfl rfl (by rw [eight_length]; omega) (by omega) ?_)
  intro v2 w2 ho2 hg2 _
  have hl2 : Below (w.heap.size + 1) w1 w2 := toBelow hg2 (by omega) (fun g hg => (ho1.lt g hg).1)
  have hR2 := hR1.below hl2 (by omega)
  have hm2 := hl1.trans (hl2.mono (by omega))
  clear hR1 hl1 ho1 hg2 hl2 hp1
  go_wp2_with fail
  refine (padded_any v2 (eight key.length ++ key) w2 ho2.byt (by simp [eight_length]; omega)).mono ?_
  rintro _ w3 ⟨v3, rfl, ho3, hb3⟩
  have hR3 := hR2.ext hb3
  have hm3 := hm2.trans (hb3.mono hm2.size)
  have hp2 := hR2.lt
  clear ho2 hR2 hm2
  go_wp2_with (at_builtin; refine stop_here ?_)
  have hlP : (padBlk (eight key.length ++ key)).length ≤ key.length + 24 := by simp [padBlk, eight_length]; omega
  refine Stop.go (wpList_append_byt rfl rfl byt29 ho3 (HB.out.ext hm3) rfl rfl (by omega) hb3.size ?_)
  intro v4 w4 ho4 hg4 _
  have hl4 : Below w2.heap.size w3 w4 := toBelow hg4 hb3.size (fun g hg => (ho3.lt g hg).1)
  have hR4 := hR3.below hl4 (by omega)
  have hm4 := hm3.trans (hl4.mono (by omega))
  have hs4 := hl4.size
  have hs3 := hb3.size
  clear ho3 hg4 hl4 hR3 hm3 hb3
  go_wp2_with (at_builtin; refine stop_here ?_)
  refine Stop.go (wpList_append_byt rfl rfl byt29 (ho4.below ((Below.refl _ _).alloc (Nat.le_refl _) _)) (l := [128]) (Own.lit 5 w4.heap.size w4 [128] (Nat.le_refl _) (by simp [maxLen])).byt rfl rfl (by simp; omega) (by simp; omega) ?_)
  intro v5 w5 ho5 hg5 _
  have hl5 : Below w2.heap.size w4 w5 := (((Below.refl _ _).alloc (by omega) _)).trans (toBelow hg5 (by simp; omega) (fun g hg => (ho4.lt g hg).1))
  have hR5 := hR4.below hl5 (by omega)
  have hm5 := hm4.trans (hl5.mono (by omega))
  clear ho4 hg5 hl5 hR4 hm4
  go_wp2_with fail
  refine (padded_any v5 (padBlk (eight key.length ++ key) ++ b ++ [128]) w5 ho5.byt (by simp; omega)).mono ?_
  rintro _ w6 ⟨v6, rfl, ho6, hb6⟩
  have hR6 := hR5.ext hb6
  have hm6 := hm5.trans (hb6.mono hm5.size)
  have hs6 := hb6.size
  have hp5 := hR5.lt
  have hY6 := ho6.byt
  have hlt6 := hY6.lt'
  have HLT := Lib.hid hlt6
  have hLl : (padBlk (padBlk (eight key.length ++ key) ++ b ++ [128])).length ≤ key.length + b.length + 48 := by simp [padBlk, eight_length]; omega
  have hL0 := padBlk_length (padBlk (eight key.length ++ key) ++ b ++ [128])
  have hraw : rawB key b = outB (seal7 (absAll S8.zero (padBlk (padBlk (eight key.length ++ key) ++ b ++ [128]))).1) := rfl
  generalize padBlk (padBlk (eight key.length ++ key) ++ b ++ [128]) = L at *
  obtain ⟨va, vc, rfl, _, hvm⟩ := hY6.len
  unfold maxLen at hvm
  have HL0 := Lib.hid hL0
  have HRAW := Lib.hid hraw
  clear ho5 ho6 hR5 hm5 hb6 hraw hL0 hlt6 HK HB hlP hkm hbm
  go_wp2
  generalize hns' : w6.heap.size = ns at *
  have HNS := Lib.hid hns'
  clear hns'
  have hns : w.heap.size ≤ ns := by omega
  have hnn : w.heap.size ≠ ns := by omega
  have hvlt : ∀ k, (Value.slice va L.length vc).ownBlock = some k → k ≠ ns := fun k hk => by have := HLT.out k hk; have := HNS.out; omega
  have HVL := Lib.hid hvlt
  clear hvlt
  have hB7 : Blk (w6.alloc (.cells S8.zero.vals 25)) ns S8.zero.vals 25 := Blk.newAt HNS.out.symm _ _
  have hY7 : Byt (w6.alloc (.cells S8.zero.vals 25)) (.slice va L.length vc) L := hY6.ext ((Below.refl _ _).alloc (Nat.le_refl _) _)
  have hR7 : Blk (w6.alloc (.cells S8.zero.vals 25)) w.heap.size ((List.replicate 16 (0 : UInt8)).map B).toArray 65 := hR6.alloc _
  have hb7 : Below w.heap.size w (w6.alloc (.cells S8.zero.vals 25)) := hm6.alloc (by have := HNS.out; omega) _
  clear hR6 hm6 hY6 HLT hs6
  go_loopw [7, 8, 9] (fun i _ _ wr => ∃ (S : S8) (pre rest : List UInt8), L = pre ++ rest ∧ i = .int .i64 pre.length ∧ rest.length % 16 = 0 ∧ absAll S rest = absAll S8.zero L ∧ Blk wr ns S.vals 25 ∧ Byt wr (.slice va L.length vc) L ∧ Blk wr w.heap.size ((List.replicate 16 (0 : UInt8)).map B).toArray 65 ∧ Below w.heap.size w wr) (fun i _ _ _ => (L.length - intOf i).toNat)
  case atStart => exact ⟨S8.zero, [], L, rfl, rfl, HL0.out, rfl, hB7, hY7, hR7, hb7⟩
  case round =>
    obtain ⟨s, pre, rest, hL, rfl, hr0, hA, hB1, hY1, hR1, hb1⟩ := hrel
    clear hB7 hY7 hR7 hb7
    have hLlen : L.length = pre.length + rest.length := by rw [hL, List.length_append]
    have HL := Lib.hid hL
    have HA := Lib.hid hA
    clear hL hA
    obtain ⟨wo, rfl⟩ : ∃ wo : World, wo = wr := ⟨_, rfl⟩
    by_cases hre : rest.length = 0
    · have hge : ¬ ((pre.length : Int) < L.length) := by omega
      have hre' := List.eq_nil_of_length_eq_zero hre
      have HRE := Lib.hid hre'
      clear hLlen hre hre' hr0
      have hbc := hB1.cell
      have hbf := hB1.frozen
      have hpl := hB1.lt
      simp only [S8.vals] at hbc
      go_wp2_with fail
      have hB2 := hB1.set 7 (W (s.h ^^^ w32 1))
      have hR2 := hR1.setOther ⟨ns, 7, none⟩ (W (s.h ^^^ w32 1)) hnn
      have hb2 := hb1.setCell (p := ⟨ns, 7, none⟩) hns (W (s.h ^^^ w32 1))
      clear hbc hbf hB1 hR1 hb1 hY1
      refine (rmix_any ⟨s.a, s.b, s.c, s.d, s.e, s.f, s.g, s.h ^^^ w32 1⟩ _).mono ?_
      rintro _ w7 ⟨rfl, h7⟩
      have hB3 := hB2.ext h7
      have hR3 := hR2.ext h7
      have hb3 := hb2.trans (Below.mono h7 hb2.size)
      clear hB2 hR2 hb2 h7
      generalize hm : mix _ = m at *
      have HM := Lib.hid hm
      clear hm
      go_wp2_with (refine (show wpList _ _ _ (⟨none, .store 25 (.tmp 6) (.tmp 80), _, _, _, _⟩ :: _) _ _ from stop_here ?_))
      refine Stop.go (wpList_store_blk (out := m.vals) rfl rfl rfl rfl hB3 (by simp [S8.vals]) (by kernel_rfl) (vals_one _) ?_)
      intro w8 hB4 hO
      have hR4 := hR3.only hO hnn
      have hb4 := hb3.trans (hO.below hns hb3.size)
      have hpl8 := hB4.lt
      clear hB3 hR3 hb3 hO
      go_wp2
      have hz : (#[Value.int .u8 0, .int .u8 0, .int .u8 0, .int .u8 0, .int .u8 0, .int .u8 0, .int .u8 0, .int .u8 0, .int .u8 0, .int .u8 0, .int .u8 0, .int .u8 0, .int .u8 0, .int .u8 0, .int .u8 0, .int .u8 0] : Array Value) = fillA (fun i => B (outb m i)) (.int .u8 0) 16 0 := rfl
      rw [hz]
      clear hz
      go_loopw [11] (fun i wr => ∃ k : Nat, k ≤ 16 ∧ i = .int .i64 k ∧ wr = w8.alloc (.cells (fillA (fun i => B (outb m i)) (.int .u8 0) 16 k) 65)) (fun i _ => (16 - intOf i).toNat)
      case atStart => exact ⟨0, by omega, rfl, rfl⟩
      case round =>
        obtain ⟨k, hk, rfl, rfl⟩ := hrel
        by_cases h16 : k < 16
        · have hg := fillA_get (fun i => B (outb m i)) (.int .u8 0) 16 k k h16
          rw [if_neg (by omega)] at hg
          have hcw : w8.cell? ⟨ns, k / 4, none⟩ = some (W (m.word (k / 4))) := by
            rw [hB4.cell]
            have h4 : k / 4 = 0 ∨ k / 4 = 1 ∨ k / 4 = 2 ∨ k / 4 = 3 := by omega
            rcases h4 with h4 | h4 | h4 | h4 <;> rw [h4] <;> simp [S8.vals, S8.word]
          have hs0 : (0 : Int) ≤ 8 * ((k : Int) % 4) := by omega
          have hs1 : 8 * ((k : Int) % 4) ≤ 32 := by omega
          have hq0 : (0 : Int) ≤ (k : Int) / 4 := by omega
          have hq4 : (k : Int) / 4 < 4 := by omega
          go_wp2
          go_roundw
          case rel => exact ⟨k + 1, by omega, by go_num, by rw [← fillA_next]; rfl⟩
          case measure => simp [intOf]; omega
        · obtain rfl : k = 16 := by omega
          have hF : fillA (fun i => B (outb m i)) (.int .u8 0) 16 16 = ((outB m).map B).toArray := by
            rw [fillA_all _ _ _ _ (Nat.le_refl _)]; simp [outB, Function.comp_def]
          rw [hF]
          have hsz : ((outB m).map B).toArray.size = 16 := by simp [outB_length]
          have HSZ := Lib.hid hsz
          have HONE := Lib.hid (bytes_one (outB m))
          clear hF hsz
          generalize hOUT : ((outB m).map B).toArray = OUT at *
          have HOUT := Lib.hid hOUT
          clear hOUT
          go_wp2_with (refine (show wpList _ _ _ (⟨some 97, .load 65 (.tmp 10), _, _, _, _⟩ :: _) _ _ from stop_here ?_))
          refine Stop.go (wpList_load_row rfl 65 (.tmp 10) rfl w8.heap.size rfl 65 OUT (0, 0) _ (Blk.new w8 OUT 65) Try.underlying65 rfl (by rw [HSZ.out]; kernel_rfl) ?_)
          go_wp2_with (refine (show wpList _ _ _ (⟨none, .store 65 (.tmp 4) (.tmp 97), _, _, _, _⟩ :: _) _ _ from stop_here ?_))
          refine Stop.go (wpList_store_blk rfl rfl rfl rfl (hR4.alloc _) (by rw [HSZ.out]; rfl) (by rw [HSZ.out]; kernel_rfl) HONE.out ?_)
          intro w9 hR5 hO
          have hb5 := (hb4.alloc hb4.size (.cells OUT 65)).trans (hO.below (Nat.le_refl _) (by have := hb4.size; simp; omega))
          clear hO hR4 hb4 hB4
          go_wp2
          refine bodyPost_ret (results_cell_row rfl _ _ w.heap.size 65 OUT (0, 0) _ rfl hR5 Try.underlying65 rfl (by rw [HSZ.out]; kernel_rfl)) rfl ⟨?_, hb5⟩
          rw [← HOUT.out, ← HM.out, HRAW.out, seal7, ← HA.out, HRE.out, absAll_lt (by simp), show w32 1 = 1 from rfl]
    · obtain ⟨b0, b1, b2, b3, b4, b5, b6, b7, b8, b9, b10, b11, b12, b13, b14, b15, r, hr⟩ := sixteen rest (by omega)
      have HR := Lib.hid hr
      have hrl : rest.length = r.length + 16 := by rw [hr]; simp
      have hlt : (pre.length : Int) < L.length := by omega
      have hLge : pre.length + 16 ≤ L.length := by omega
      have hr16 : r.length % 16 = 0 := by omega
      have HLL := Lib.hid hLlen
      have HR16 := Lib.hid hr16
      clear hr hr16 hLlen hrl hr0 hre
      go_wp2
      go_loopw [8, 9] (fun j _ wi => ∃ k : Nat, k ≤ 4 ∧ j = .int .i64 k ∧ Blk wi ns (takeV s b0 b1 b2 b3 b4 b5 b6 b7 b8 b9 b10 b11 b12 b13 b14 b15 k) 25 ∧ Byt wi (.slice va L.length vc) L ∧ Blk wi w.heap.size ((List.replicate 16 (0 : UInt8)).map B).toArray 65 ∧ Below w.heap.size w wi) (fun j _ _ => (4 - intOf j).toNat)
      case atStart => exact ⟨0, by omega, rfl, hB1, hY1, hR1, hb1⟩
      case round =>
        obtain ⟨k, hk, rfl, hB2, hY2, hR2, hb2⟩ := hrel
        clear hB1 hY1 hR1 hb1
        obtain ⟨g, off, hvv, hgn, hd⟩ : ∃ g off, va = some ⟨g, off, none⟩ ∧ g ≠ ns ∧ ∀ c, c < 16 → wr.drew.cell? ⟨g, off + (pre.length + c), none⟩ = lookL [B b0, B b1, B b2, B b3, B b4, B b5, B b6, B b7, B b8, B b9, B b10, B b11, B b12, B b13, B b14, B b15] c := by
          rcases hY2 with ⟨hv, hl⟩ | ⟨g, off, cap, hv, _, _, _, h4⟩
          · rw [hl] at hLge; simp at hLge
          · simp only [Value.slice.injEq, true_and] at hv
            obtain ⟨rfl, rfl⟩ := hv
            refine ⟨g, off, rfl, HVL.out g rfl, fun c hc => ?_⟩
            have hgb : ∀ b, ([b0, b1, b2, b3, b4, b5, b6, b7, b8, b9, b10, b11, b12, b13, b14, b15] : List UInt8)[c]? = some b → wr.drew.cell? ⟨g, off + (pre.length + c), none⟩ = some (B b) := fun b hb => h4 _ _ (by
              rw [HL.out, HR.out, List.getElem?_append_right (by omega), Nat.add_sub_cancel_left, List.getElem?_append_left (by simpa using hc)]; exact hb)
            have h16 : c = 0 ∨ c = 1 ∨ c = 2 ∨ c = 3 ∨ c = 4 ∨ c = 5 ∨ c = 6 ∨ c = 7 ∨ c = 8 ∨ c = 9 ∨ c = 10 ∨ c = 11 ∨ c = 12 ∨ c = 13 ∨ c = 14 ∨ c = 15 := by omega
            rcases h16 with rfl | rfl | rfl | rfl | rfl | rfl | rfl | rfl | rfl | rfl | rfl | rfl | rfl | rfl | rfl | rfl <;> exact hgb _ rfl
        subst hvv
        have hk5 : k = 0 ∨ k = 1 ∨ k = 2 ∨ k = 3 ∨ k = 4 := by omega
        rcases hk5 with rfl | rfl | rfl | rfl | rfl
        · go_wp2
          refine wp_region_T 35 (by kernel_rfl) (by kernel_rfl) (by kernel_rfl) ?_
          simp only [List.take_succ_cons, List.take_zero, List.drop_succ_cons, List.drop_zero]
          have hcL := hB2.drew.cellL
          refine E_move (rho_base rfl rfl) ?_
          refine E_move (rho_base rfl rfl) ?_
          refine E_indexArr (rho_base rfl rfl) (rho_env rfl) ar25 ⟨by decide, by decide, rfl⟩ ?_
          refine E_load (rho_env rfl) on24 (by first | exact ((hcL _).trans rfl) | exact (Eq.trans (hd _ (by decide)) rfl)) ?_
          refine E_move (rho_base rfl rfl) ?_
          refine E_move (rho_base rfl rfl) ?_
          refine E_indexSl (rho_env rfl) (rho_env rfl) sl29 ⟨by omega, by omega, (by omega : off + (pre.length + 0) = _)⟩ ?_
          refine E_load (rho_env rfl) on5 (by first | exact ((hcL _).trans rfl) | exact (Eq.trans (hd _ (by decide)) rfl)) ?_
          refine E_convBW (rho_env rfl) Try.underlying5 Try.underlying24 ?_
          refine E_move (rho_base rfl rfl) ?_
          refine E_move (rho_base rfl rfl) ?_
          refine E_addI (rho_env rfl) rho_const ⟨rfl, by omega, by omega⟩ ?_
          refine E_indexSl (rho_env rfl) (rho_env rfl) sl29 ⟨by omega, by omega, (by omega : off + (pre.length + 1) = _)⟩ ?_
          refine E_load (rho_env rfl) on5 (by first | exact ((hcL _).trans rfl) | exact (Eq.trans (hd _ (by decide)) rfl)) ?_
          refine E_convBW (rho_env rfl) Try.underlying5 Try.underlying24 ?_
          refine E_shlW (rho_env rfl) rho_const ⟨by decide, by decide⟩ ?_
          refine E_orW (rho_env rfl) (rho_env rfl) ?_
          refine E_move (rho_base rfl rfl) ?_
          refine E_move (rho_base rfl rfl) ?_
          refine E_addI (rho_env rfl) rho_const ⟨rfl, by omega, by omega⟩ ?_
          refine E_indexSl (rho_env rfl) (rho_env rfl) sl29 ⟨by omega, by omega, (by omega : off + (pre.length + 2) = _)⟩ ?_
          refine E_load (rho_env rfl) on5 (by first | exact ((hcL _).trans rfl) | exact (Eq.trans (hd _ (by decide)) rfl)) ?_
          refine E_convBW (rho_env rfl) Try.underlying5 Try.underlying24 ?_
          refine E_shlW (rho_env rfl) rho_const ⟨by decide, by decide⟩ ?_
          refine E_orW (rho_env rfl) (rho_env rfl) ?_
          refine E_move (rho_base rfl rfl) ?_
          refine E_move (rho_base rfl rfl) ?_
          refine E_addI (rho_env rfl) rho_const ⟨rfl, by omega, by omega⟩ ?_
          refine E_indexSl (rho_env rfl) (rho_env rfl) sl29 ⟨by omega, by omega, (by omega : off + (pre.length + 3) = _)⟩ ?_
          refine E_load (rho_env rfl) on5 (by first | exact ((hcL _).trans rfl) | exact (Eq.trans (hd _ (by decide)) rfl)) ?_
          refine E_convBW (rho_env rfl) Try.underlying5 Try.underlying24 ?_
          refine E_shlW (rho_env rfl) rho_const ⟨by decide, by decide⟩ ?_
          refine E_orW (rho_env rfl) (rho_env rfl) ?_
          refine E_xorW (rho_env rfl) (rho_env rfl) ?_
          refine E_indexArr (rho_base rfl rfl) (rho_env rfl) ar25 ⟨by decide, by decide, rfl⟩ ?_
          refine E_nil ?_
          clear hcL hd
          have hbc := hB2.drew.cell
          have hbf := hB2.drew.frozen
          simp only [takeV] at hbc
          refine wpList_norm (rfl : setsL _ 0 _ = [_, _, _, _, _, _, _, _, _, _, _, _, _, _, _, _, _, _, _, _, _, _, _, _, _, _, _, _, _, _, _, _, _, _, _, _, _, _, _, _, _, _, _, _, _, _, _, _, _, _, _, _, _, _, _, _, _, _, _, _, _, _, _, _, _, _, _, _, _, _, _, _, _, _, _, _, _, _, _, _, _, _, _, _, _, _, _, _, _, _, _, _, _, _, _, _, _, _]) ?_
          go_wp2
          go_roundw
          case rel => exact ⟨1, by omega, rfl, hB2.drew.set 0 _, hY2.drew.only ((Only.refl ns _).set (.inl rfl) _) (by simpa [Value.ownBlock] using hgn), hR2.drew.setOther _ _ (by simpa using hnn), (hb2.drew).setCell (by simpa using hns) _⟩
          case measure => simp [intOf]
        · go_wp2
          refine wp_region_T 35 (by kernel_rfl) (by kernel_rfl) (by kernel_rfl) ?_
          simp only [List.take_succ_cons, List.take_zero, List.drop_succ_cons, List.drop_zero]
          have hcL := hB2.drew.cellL
          refine E_move (rho_base rfl rfl) ?_
          refine E_move (rho_base rfl rfl) ?_
          refine E_indexArr (rho_base rfl rfl) (rho_env rfl) ar25 ⟨by decide, by decide, rfl⟩ ?_
          refine E_load (rho_env rfl) on24 (by first | exact ((hcL _).trans rfl) | exact (Eq.trans (hd _ (by decide)) rfl)) ?_
          refine E_move (rho_base rfl rfl) ?_
          refine E_move (rho_base rfl rfl) ?_
          refine E_indexSl (rho_env rfl) (rho_env rfl) sl29 ⟨by omega, by omega, (by omega : off + (pre.length + 4) = _)⟩ ?_
          refine E_load (rho_env rfl) on5 (by first | exact ((hcL _).trans rfl) | exact (Eq.trans (hd _ (by decide)) rfl)) ?_
          refine E_convBW (rho_env rfl) Try.underlying5 Try.underlying24 ?_
          refine E_move (rho_base rfl rfl) ?_
          refine E_move (rho_base rfl rfl) ?_
          refine E_addI (rho_env rfl) rho_const ⟨rfl, by omega, by omega⟩ ?_
          refine E_indexSl (rho_env rfl) (rho_env rfl) sl29 ⟨by omega, by omega, (by omega : off + (pre.length + 5) = _)⟩ ?_
          refine E_load (rho_env rfl) on5 (by first | exact ((hcL _).trans rfl) | exact (Eq.trans (hd _ (by decide)) rfl)) ?_
          refine E_convBW (rho_env rfl) Try.underlying5 Try.underlying24 ?_
          refine E_shlW (rho_env rfl) rho_const ⟨by decide, by decide⟩ ?_
          refine E_orW (rho_env rfl) (rho_env rfl) ?_
          refine E_move (rho_base rfl rfl) ?_
          refine E_move (rho_base rfl rfl) ?_
          refine E_addI (rho_env rfl) rho_const ⟨rfl, by omega, by omega⟩ ?_
          refine E_indexSl (rho_env rfl) (rho_env rfl) sl29 ⟨by omega, by omega, (by omega : off + (pre.length + 6) = _)⟩ ?_
          refine E_load (rho_env rfl) on5 (by first | exact ((hcL _).trans rfl) | exact (Eq.trans (hd _ (by decide)) rfl)) ?_
          refine E_convBW (rho_env rfl) Try.underlying5 Try.underlying24 ?_
          refine E_shlW (rho_env rfl) rho_const ⟨by decide, by decide⟩ ?_
          refine E_orW (rho_env rfl) (rho_env rfl) ?_
          refine E_move (rho_base rfl rfl) ?_
          refine E_move (rho_base rfl rfl) ?_
          refine E_addI (rho_env rfl) rho_const ⟨rfl, by omega, by omega⟩ ?_
          refine E_indexSl (rho_env rfl) (rho_env rfl) sl29 ⟨by omega, by omega, (by omega : off + (pre.length + 7) = _)⟩ ?_
          refine E_load (rho_env rfl) on5 (by first | exact ((hcL _).trans rfl) | exact (Eq.trans (hd _ (by decide)) rfl)) ?_
          refine E_convBW (rho_env rfl) Try.underlying5 Try.underlying24 ?_
          refine E_shlW (rho_env rfl) rho_const ⟨by decide, by decide⟩ ?_
          refine E_orW (rho_env rfl) (rho_env rfl) ?_
          refine E_xorW (rho_env rfl) (rho_env rfl) ?_
          refine E_indexArr (rho_base rfl rfl) (rho_env rfl) ar25 ⟨by decide, by decide, rfl⟩ ?_
          refine E_nil ?_
          clear hcL hd
          have hbc := hB2.drew.cell
          have hbf := hB2.drew.frozen
          simp only [takeV] at hbc
          refine wpList_norm (rfl : setsL _ 0 _ = [_, _, _, _, _, _, _, _, _, _, _, _, _, _, _, _, _, _, _, _, _, _, _, _, _, _, _, _, _, _, _, _, _, _, _, _, _, _, _, _, _, _, _, _, _, _, _, _, _, _, _, _, _, _, _, _, _, _, _, _, _, _, _, _, _, _, _, _, _, _, _, _, _, _, _, _, _, _, _, _, _, _, _, _, _, _, _, _, _, _, _, _, _, _, _, _, _, _]) ?_
          go_wp2
          go_roundw
          case rel => exact ⟨2, by omega, rfl, hB2.drew.set 1 _, hY2.drew.only ((Only.refl ns _).set (.inl rfl) _) (by simpa [Value.ownBlock] using hgn), hR2.drew.setOther _ _ (by simpa using hnn), (hb2.drew).setCell (by simpa using hns) _⟩
          case measure => simp [intOf]
        · go_wp2
          refine wp_region_T 35 (by kernel_rfl) (by kernel_rfl) (by kernel_rfl) ?_
          simp only [List.take_succ_cons, List.take_zero, List.drop_succ_cons, List.drop_zero]
          have hcL := hB2.drew.cellL
          refine E_move (rho_base rfl rfl) ?_
          refine E_move (rho_base rfl rfl) ?_
          refine E_indexArr (rho_base rfl rfl) (rho_env rfl) ar25 ⟨by decide, by decide, rfl⟩ ?_
          refine E_load (rho_env rfl) on24 (by first | exact ((hcL _).trans rfl) | exact (Eq.trans (hd _ (by decide)) rfl)) ?_
          refine E_move (rho_base rfl rfl) ?_
          refine E_move (rho_base rfl rfl) ?_
          refine E_indexSl (rho_env rfl) (rho_env rfl) sl29 ⟨by omega, by omega, (by omega : off + (pre.length + 8) = _)⟩ ?_
          refine E_load (rho_env rfl) on5 (by first | exact ((hcL _).trans rfl) | exact (Eq.trans (hd _ (by decide)) rfl)) ?_
          refine E_convBW (rho_env rfl) Try.underlying5 Try.underlying24 ?_
          refine E_move (rho_base rfl rfl) ?_
          refine E_move (rho_base rfl rfl) ?_
          refine E_addI (rho_env rfl) rho_const ⟨rfl, by omega, by omega⟩ ?_
          refine E_indexSl (rho_env rfl) (rho_env rfl) sl29 ⟨by omega, by omega, (by omega : off + (pre.length + 9) = _)⟩ ?_
          refine E_load (rho_env rfl) on5 (by first | exact ((hcL _).trans rfl) | exact (Eq.trans (hd _ (by decide)) rfl)) ?_
          refine E_convBW (rho_env rfl) Try.underlying5 Try.underlying24 ?_
          refine E_shlW (rho_env rfl) rho_const ⟨by decide, by decide⟩ ?_
          refine E_orW (rho_env rfl) (rho_env rfl) ?_
          refine E_move (rho_base rfl rfl) ?_
          refine E_move (rho_base rfl rfl) ?_
          refine E_addI (rho_env rfl) rho_const ⟨rfl, by omega, by omega⟩ ?_
          refine E_indexSl (rho_env rfl) (rho_env rfl) sl29 ⟨by omega, by omega, (by omega : off + (pre.length + 10) = _)⟩ ?_
          refine E_load (rho_env rfl) on5 (by first | exact ((hcL _).trans rfl) | exact (Eq.trans (hd _ (by decide)) rfl)) ?_
          refine E_convBW (rho_env rfl) Try.underlying5 Try.underlying24 ?_
          refine E_shlW (rho_env rfl) rho_const ⟨by decide, by decide⟩ ?_
          refine E_orW (rho_env rfl) (rho_env rfl) ?_
          refine E_move (rho_base rfl rfl) ?_
          refine E_move (rho_base rfl rfl) ?_
          refine E_addI (rho_env rfl) rho_const ⟨rfl, by omega, by omega⟩ ?_
          refine E_indexSl (rho_env rfl) (rho_env rfl) sl29 ⟨by omega, by omega, (by omega : off + (pre.length + 11) = _)⟩ ?_
          refine E_load (rho_env rfl) on5 (by first | exact ((hcL _).trans rfl) | exact (Eq.trans (hd _ (by decide)) rfl)) ?_
          refine E_convBW (rho_env rfl) Try.underlying5 Try.underlying24 ?_
          refine E_shlW (rho_env rfl) rho_const ⟨by decide, by decide⟩ ?_
          refine E_orW (rho_env rfl) (rho_env rfl) ?_
          refine E_xorW (rho_env rfl) (rho_env rfl) ?_
          refine E_indexArr (rho_base rfl rfl) (rho_env rfl) ar25 ⟨by decide, by decide, rfl⟩ ?_
          refine E_nil ?_
          clear hcL hd
          have hbc := hB2.drew.cell
          have hbf := hB2.drew.frozen
          simp only [takeV] at hbc
          refine wpList_norm (rfl : setsL _ 0 _ = [_, _, _, _, _, _, _, _, _, _, _, _, _, _, _, _, _, _, _, _, _, _, _, _, _, _, _, _, _, _, _, _, _, _, _, _, _, _, _, _, _, _, _, _, _, _, _, _, _, _, _, _, _, _, _, _, _, _, _, _, _, _, _, _, _, _, _, _, _, _, _, _, _, _, _, _, _, _, _, _, _, _, _, _, _, _, _, _, _, _, _, _, _, _, _, _, _, _]) ?_
          go_wp2
          go_roundw
          case rel => exact ⟨3, by omega, rfl, hB2.drew.set 2 _, hY2.drew.only ((Only.refl ns _).set (.inl rfl) _) (by simpa [Value.ownBlock] using hgn), hR2.drew.setOther _ _ (by simpa using hnn), (hb2.drew).setCell (by simpa using hns) _⟩
          case measure => simp [intOf]
        · go_wp2
          refine wp_region_T 35 (by kernel_rfl) (by kernel_rfl) (by kernel_rfl) ?_
          simp only [List.take_succ_cons, List.take_zero, List.drop_succ_cons, List.drop_zero]
          have hcL := hB2.drew.cellL
          refine E_move (rho_base rfl rfl) ?_
          refine E_move (rho_base rfl rfl) ?_
          refine E_indexArr (rho_base rfl rfl) (rho_env rfl) ar25 ⟨by decide, by decide, rfl⟩ ?_
          refine E_load (rho_env rfl) on24 (by first | exact ((hcL _).trans rfl) | exact (Eq.trans (hd _ (by decide)) rfl)) ?_
          refine E_move (rho_base rfl rfl) ?_
          refine E_move (rho_base rfl rfl) ?_
          refine E_indexSl (rho_env rfl) (rho_env rfl) sl29 ⟨by omega, by omega, (by omega : off + (pre.length + 12) = _)⟩ ?_
          refine E_load (rho_env rfl) on5 (by first | exact ((hcL _).trans rfl) | exact (Eq.trans (hd _ (by decide)) rfl)) ?_
          refine E_convBW (rho_env rfl) Try.underlying5 Try.underlying24 ?_
          refine E_move (rho_base rfl rfl) ?_
          refine E_move (rho_base rfl rfl) ?_
          refine E_addI (rho_env rfl) rho_const ⟨rfl, by omega, by omega⟩ ?_
          refine E_indexSl (rho_env rfl) (rho_env rfl) sl29 ⟨by omega, by omega, (by omega : off + (pre.length + 13) = _)⟩ ?_
          refine E_load (rho_env rfl) on5 (by first | exact ((hcL _).trans rfl) | exact (Eq.trans (hd _ (by decide)) rfl)) ?_
          refine E_convBW (rho_env rfl) Try.underlying5 Try.underlying24 ?_
          refine E_shlW (rho_env rfl) rho_const ⟨by decide, by decide⟩ ?_
          refine E_orW (rho_env rfl) (rho_env rfl) ?_
          refine E_move (rho_base rfl rfl) ?_
          refine E_move (rho_base rfl rfl) ?_
          refine E_addI (rho_env rfl) rho_const ⟨rfl, by omega, by omega⟩ ?_
          refine E_indexSl (rho_env rfl) (rho_env rfl) sl29 ⟨by omega, by omega, (by omega : off + (pre.length + 14) = _)⟩ ?_
          refine E_load (rho_env rfl) on5 (by first | exact ((hcL _).trans rfl) | exact (Eq.trans (hd _ (by decide)) rfl)) ?_
          refine E_convBW (rho_env rfl) Try.underlying5 Try.underlying24 ?_
          refine E_shlW (rho_env rfl) rho_const ⟨by decide, by decide⟩ ?_
          refine E_orW (rho_env rfl) (rho_env rfl) ?_
          refine E_move (rho_base rfl rfl) ?_
          refine E_move (rho_base rfl rfl) ?_
          refine E_addI (rho_env rfl) rho_const ⟨rfl, by omega, by omega⟩ ?_
          refine E_indexSl (rho_env rfl) (rho_env rfl) sl29 ⟨by omega, by omega, (by omega : off + (pre.length + 15) = _)⟩ ?_
          refine E_load (rho_env rfl) on5 (by first | exact ((hcL _).trans rfl) | exact (Eq.trans (hd _ (by decide)) rfl)) ?_
          refine E_convBW (rho_env rfl) Try.underlying5 Try.underlying24 ?_
          refine E_shlW (rho_env rfl) rho_const ⟨by decide, by decide⟩ ?_
          refine E_orW (rho_env rfl) (rho_env rfl) ?_
          refine E_xorW (rho_env rfl) (rho_env rfl) ?_
          refine E_indexArr (rho_base rfl rfl) (rho_env rfl) ar25 ⟨by decide, by decide, rfl⟩ ?_
          refine E_nil ?_
          clear hcL hd
          have hbc := hB2.drew.cell
          have hbf := hB2.drew.frozen
          simp only [takeV] at hbc
          refine wpList_norm (rfl : setsL _ 0 _ = [_, _, _, _, _, _, _, _, _, _, _, _, _, _, _, _, _, _, _, _, _, _, _, _, _, _, _, _, _, _, _, _, _, _, _, _, _, _, _, _, _, _, _, _, _, _, _, _, _, _, _, _, _, _, _, _, _, _, _, _, _, _, _, _, _, _, _, _, _, _, _, _, _, _, _, _, _, _, _, _, _, _, _, _, _, _, _, _, _, _, _, _, _, _, _, _, _, _]) ?_
          go_wp2
          go_roundw
          case rel => exact ⟨4, by omega, rfl, hB2.drew.set 3 _, hY2.drew.only ((Only.refl ns _).set (.inl rfl) _) (by simpa [Value.ownBlock] using hgn), hR2.drew.setOther _ _ (by simpa using hnn), (hb2.drew).setCell (by simpa using hns) _⟩
          case measure => simp [intOf]
        · clear hd
          have hbc := hB2.cell
          have hpl := hB2.lt
          simp only [takeV] at hbc
          go_wp2_with fail
          refine (rmix_any ⟨s.a ^^^ le b0 b1 b2 b3, s.b ^^^ le b4 b5 b6 b7, s.c ^^^ le b8 b9 b10 b11, s.d ^^^ le b12 b13 b14 b15, s.e, s.f, s.g, s.h⟩ _).mono ?_
          rintro _ w7 ⟨rfl, h7⟩
          have hB3 := hB2.ext h7
          have hR3 := hR2.ext h7
          have hY3 := hY2.ext h7
          have hb3 := hb2.trans (Below.mono h7 hb2.size)
          clear hB2 hR2 hb2 h7 hbc hY2
          generalize hm : mix _ = m at *
          have HM := Lib.hid hm
          clear hm
          go_wp2_with (refine (show wpList _ _ _ (⟨none, .store 25 (.tmp 6) (.tmp 74), _, _, _, _⟩ :: _) _ _ from stop_here ?_))
          refine Stop.go (wpList_store_blk (out := m.vals) rfl rfl rfl rfl hB3 rfl (by kernel_rfl) (vals_one _) ?_)
          intro w8 hB4 hO
          have hR4 := hR3.only hO hnn
          have hb4 := hb3.trans (hO.below hns hb3.size)
          have hY4 := hY3.only hO (by simpa [Value.ownBlock] using hgn)
          clear hB3 hR3 hb3 hO hY3
          go_wp2
          go_roundw
          case rel =>
            refine ⟨m, pre ++ [b0, b1, b2, b3, b4, b5, b6, b7, b8, b9, b10, b11, b12, b13, b14, b15], r, by rw [HL.out, HR.out, List.append_assoc], congrArg (Value.int .i64) (by rw [List.length_append]; simp), HR16.out, ?_, hB4, hY4, hR4, hb4⟩
            rw [← HA.out, HR.out, absAll_ge (s := s) (by simp), ← HM.out]
            rfl
          case measure => simp [intOf]; omega
end Go.Proofs.Ythpjihiikkhcjaa
