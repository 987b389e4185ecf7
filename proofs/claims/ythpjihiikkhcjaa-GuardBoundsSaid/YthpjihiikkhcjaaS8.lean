/-
  A part of the proofs of this seat: laws of the walk, or contracts of the functions that the statements reach. No conditions but those that each theorem names.
-/
import Derived.Test.YthpjihiikkhcjaaS8p
import Derived.Test.YthpjihiikkhcjaaS7
namespace Go.Proofs.Ythpjihiikkhcjaa
open Go.RowKit Go.Sp
set_option maxRecDepth 100000 in
set_option maxHeartbeats 8000000 in
theorem bounds_any (v : Value) (l : List Int) (w : World) (hl : Nums w v l) :
    Calls Try.prog 13 #[v] w fun e w' => e = .returned (.bool true) ∧ Below w.heap.size w w' := by
  have hls : ∃ a c, v = .slice a l.length c ∧ l.length ≤ c ∧ c ≤ maxLen := by
    rcases hl with ⟨rfl, rfl⟩ | ⟨g, off, cap, rfl, h1, h2, _⟩
    · exact ⟨none, 0, rfl, Nat.le_refl _, by simp [maxLen]⟩
    · exact ⟨_, _, rfl, h1, h2⟩
  obtain ⟨va, vc, rfl, hvc, hvm⟩ := hls
  unfold maxLen at hvm
  have HL := Lib.hid hl
  clear hl
  go_enter Try.func13, Try.ntmps13
  go_wp2_with fail
  refine (known_any _).mono ?_
  rintro _ w1 ⟨rfl, hbw1⟩
  go_wp2_with fail
  refine (bucketrow_any 5 0 _ (by decide) (by decide)).mono ?_
  rintro _ w2 ⟨rfl, hb2⟩
  have hbw2 := hbw1.trans (hb2.mono hbw1.size)
  rw [show ((5 : Int) % 6) = 5 from rfl, show ((0 : Int) % 500) = 0 from rfl]
  clear hb2 hbw1
  go_wp2_with (with_reducible refine stop_st 3 16 ?_)
  refine Stop.go (wpList_store_blk rfl rfl rfl rfl (Blk.new w2 _ 28) rfl (size28 _ _ _ _ _) (by simp [recV, Value.oneCell']) ?_)
  intro w3 hR3 hO3
  have hb3 : Below w2.heap.size w2 w3 := ((Below.refl _ _).alloc (Nat.le_refl _) _).trans (hO3.below (Nat.le_refl _) (by simp))
  have hT3 : Two w2.heap.size (recV 1 ⟨#[117]⟩ 5 0 0) w (.slice none 0 0) (.slice none 0 0) [] [] w3 := ⟨hR3, OwnI.nil _ _, OwnI.nil _ _, .inl rfl, hbw2.size, hbw2.trans (hb3.mono hbw2.size)⟩
  clear hO3 hb3 hbw2 hR3
  generalize w2.heap.size = gr at *
  go_wp2_with fail
  go_loopw [7, 4, 5, 6, 8, 9, 10] (fun i nw va vb _ _ _ wr => ∃ (k : Nat) (t a now : Int) (la lb : List Int), k ≤ 80 ∧ i = .int .i64 k ∧ nw = .int .i64 now ∧ now ≤ 12 * (k : Int) ∧ la.length ≤ k ∧ Bnd la lb t a now ∧ Two gr (recV 1 ⟨#[117]⟩ t a 0) w va vb la lb wr) (fun i _ _ _ _ _ _ _ => (81 - intOf i).toNat)
  case atStart => exact ⟨0, 5, 0, 0, [], [], by omega, rfl, rfl, by omega, by simp, Bnd.start, hT3⟩
  case round =>
    clear hT3
    obtain ⟨k, t, a, now, la, lb, hk80, rfl, rfl, hnk, hlk, hB, hT⟩ := hrel
    obtain ⟨ht0, ht5, ha0, han⟩ := hB.st
    have HB := Lib.hid hB
    clear hB
    by_cases hkl : k < l.length
    · by_cases hk8 : k < 80
      · have hkl' : (k : Int) < (l.length : Int) := by omega
        have hk8' : (k : Int) < 80 := by omega
        obtain ⟨g, off, rfl, hcn⟩ : ∃ g off, va = some ⟨g, off, none⟩ ∧ wr.cell? ⟨g, off + k, none⟩ = some (.int .i64 l[k]) := by
          rcases HL.out with ⟨h1, h2⟩ | ⟨g, off, cap, h1, _, _, hg, h2⟩
          · rw [h2] at hkl; simp at hkl
          · simp only [Value.slice.injEq] at h1
            exact ⟨g, off, h1.1, (World.cell?_of_block (a := ⟨g, off + k, none⟩) (hT.below.block g hg)).trans (h2 k l[k] (by simp [hkl])).1⟩
        have hnb : -9223372036854775808 ≤ l[k] ∧ l[k] ≤ 9223372036854775807 := by
          rcases HL.out with ⟨h1, h2⟩ | ⟨g, off, cap, h1, _, _, hg, h2⟩
          · rw [h2] at hkl; simp at hkl
          · exact (h2 k l[k] (by simp [hkl])).2
        generalize l[k] = m at *
        have HT := Lib.hid hT
        clear hT
        go_wp2_with fail
        refine (within_any m 1048576 hnb (by decide) (by decide) _).mono ?_
        rintro _ wx ⟨rfl, rfl⟩
        have hK : 0 ≤ m % 1048576 ∧ m % 1048576 < 1048576 := by omega
        generalize m % 1048576 = K at *
        clear hcn
        obtain ⟨q, hq⟩ : ∃ q, q = K / 4 := ⟨_, rfl⟩
        obtain ⟨r, hr⟩ : ∃ r, r = q % 13 := ⟨_, rfl⟩
        obtain ⟨nw, hnw⟩ : ∃ nw, nw = now + r := ⟨_, rfl⟩
        obtain ⟨m4, hm4⟩ : ∃ x, x = K % 4 := ⟨_, rfl⟩
        obtain ⟨q52, hq52⟩ : ∃ x, x = K / 52 := ⟨_, rfl⟩
        obtain ⟨m2, hm2⟩ : ∃ x, x = q52 % 2 := ⟨_, rfl⟩
        have hq0 : 0 ≤ q ∧ q ≤ 1048576 := by omega
        have hr0 : 0 ≤ r ∧ r ≤ 12 := by omega
        have hq520 : 0 ≤ q52 := by omega
        have hnw0 : now ≤ nw ∧ nw ≤ 12 * ((k : Int) + 1) := by omega
        have HQ := Lib.hid hq
        have HR := Lib.hid hr
        have HNW := Lib.hid hnw
        have HM4 := Lib.hid hm4
        have HQ52 := Lib.hid hq52
        have HM2 := Lib.hid hm2
        clear hq hr hnw hm4 hq52 hm2
        have HBN := Lib.hid (HB.out.later hnw0.1)
        obtain ⟨M, E, hME⟩ : ∃ M E, tokM t a nw = (M, E) := ⟨_, _, rfl⟩
        have HME := Lib.hid hME
        clear hME
        go_wp2_with (with_reducible refine stop_at 34 ?_)
        refine Stop.go (wpList_val rfl (r_quoI rfl rfl (by omega) (by decide) HQ.out.symm) ?_)
        go_wp2_with (with_reducible refine stop_at 35 ?_)
        refine Stop.go (wpList_val rfl (r_remI rfl rfl (by omega) (by decide) HR.out.symm) ?_)
        go_wp2_with (with_reducible refine stop_at 36 ?_)
        refine Stop.go (wpList_val rfl (r_addI rfl rfl ⟨HNW.out.symm, by omega⟩) ?_)
        go_wp2_with (with_reducible refine stop_at 38 ?_)
        refine Stop.go (wpList_val rfl (r_remI rfl rfl (by omega) (by decide) HM4.out.symm) ?_)
        by_cases h4 : m4 = 3 ∧ m2 = 0
        · obtain ⟨h43, h20⟩ := h4
          subst h43
          subst h20
          go_wp2_with (with_reducible refine stop_at 42 ?_)
          refine Stop.go (wpList_valw rfl (r_quoI rfl rfl (by omega) (by decide) HQ52.out.symm) ?_)
          go_wp2_with (with_reducible refine stop_at 43 ?_)
          refine Stop.go (wpList_valw rfl (r_remI rfl rfl (by omega) (by decide) HM2.out.symm) ?_)
          have HRF : Hid (rfM 1 ⟨#[117]⟩ t a 0 nw = recV 1 ⟨#[117]⟩ (min (M + 1) 5) E 0) := Lib.hid (by unfold rfM; rw [HME.out])
          go_wp2_with (with_reducible refine stop_at 46 ?_)
          refine Stop.go (wpList_val rfl (r_loadBlk rfl HT.out.row Try.underlying28 rfl (size28 _ _ _ _ _)) ?_)
          go_wp2_with fail
          refine (refund_any 1 _ t a 0 nw _ ⟨ht0, ht5⟩ (by omega) (by omega)).mono ?_
          rintro _ v1 ⟨rfl, hb1⟩
          rw [HRF.out]
          have hT1 := HT.out.ext hb1
          clear hb1
          go_wp2_with (with_reducible refine stop_st 3 48 ?_)
          refine Stop.go (wpList_store_blk rfl rfl rfl rfl hT1.row rfl (size28 _ _ _ _ _) (by simp [recV, Value.oneCell']) ?_)
          intro v2 hZ hO2
          have hT := hT1.set hZ hO2
          clear hO2 hT1 hZ
          go_wp2_with (with_reducible refine stop_at 52 ?_)
          refine Stop.go (Two.app (hT.ext ((Below.refl _ _).alloc (Nat.le_refl _) _)) rfl rfl rfl rfl (Blk.new _ _ 3) (by omega) fun v' x1 hT1 => ?_)
          clear hT
          go_wp2_with (with_reducible refine stop_at 55 ?_)
          refine Stop.go (Two.app (hT1.swap.ext ((Below.refl _ _).alloc (Nat.le_refl _) _)) rfl rfl rfl rfl (Blk.new _ _ 3) (by have := HBN.out.len; omega) fun v'' x2 hT2 => ?_)
          clear hT1
          go_wp2
          go_roundw
          case rel => exact ⟨k + 1, _, _, nw, la ++ [nw], lb ++ [-1], by omega, by go_num, rfl, by omega, by simp; omega, HBN.out.event HME.out (.inr ⟨rfl, rfl⟩), hT2.swap⟩
          case measure => simp [intOf]; omega
        · by_cases h43 : m4 = 3
          · have h20 : (m2 == 0) = false := by simp; omega
            subst h43
            go_wp2_with (with_reducible refine stop_at 42 ?_)
            refine Stop.go (wpList_valw rfl (r_quoI rfl rfl (by omega) (by decide) HQ52.out.symm) ?_)
            go_wp2_with (with_reducible refine stop_at 43 ?_)
            refine Stop.go (wpList_valw rfl (r_remI rfl rfl (by omega) (by decide) HM2.out.symm) ?_)
            have hT := HT.out
            go_wp2_with (with_reducible refine stop_at 57 ?_)
            refine Stop.go (wpList_val rfl (r_loadBlk rfl hT.row Try.underlying28 rfl (size28 _ _ _ _ _)) ?_)
            go_wp2_with fail
            refine (charge_any 1 _ t a 0 nw _ ⟨ht0, ht5⟩ (by omega) (by omega)).mono ?_
            rintro _ v1 ⟨rfl, hb1⟩
            replace hT := hT.ext hb1
            clear hb1
            by_cases hM : M < 1
            · have HC : Hid (chM 1 ⟨#[117]⟩ t a 0 nw = (recV 0 ⟨#[]⟩ 0 0 0, false)) := Lib.hid (by unfold chM; rw [HME.out, if_pos hM])
              rw [HC.out]
              go_wp2_with (with_reducible refine stop_st 9 60 ?_)
              refine Stop.go (wpList_store_blk rfl rfl rfl rfl (Blk.new v1 _ 28) rfl (size28 _ _ _ _ _) (by simp [recV, Value.oneCell']) ?_)
              intro v2 hS2 hO2
              have hb2 : Below v1.heap.size v1 v2 := ((Below.refl _ _).alloc (Nat.le_refl _) _).trans (hO2.below (Nat.le_refl _) (by simp))
              replace hT := hT.ext hb2
              clear hO2 hb2 hS2
              go_wp2
              go_roundw
              case rel => exact ⟨k + 1, t, a, nw, la, lb, by omega, by go_num, rfl, by omega, by omega, HBN.out, hT⟩
              case measure => simp [intOf]; omega
            · have HC : Hid (chM 1 ⟨#[117]⟩ t a 0 nw = (recV 1 ⟨#[117]⟩ (M - 1) E 0, true)) := Lib.hid (by unfold chM; rw [HME.out, if_neg hM])
              rw [HC.out]
              have hM1 : 1 ≤ M := by omega
              go_wp2_with (with_reducible refine stop_st 9 60 ?_)
              refine Stop.go (wpList_store_blk rfl rfl rfl rfl (Blk.new v1 _ 28) rfl (size28 _ _ _ _ _) (by simp [recV, Value.oneCell']) ?_)
              intro v2 hS2 hO2
              have hb2 : Below v1.heap.size v1 v2 := ((Below.refl _ _).alloc (Nat.le_refl _) _).trans (hO2.below (Nat.le_refl _) (by simp))
              replace hT := hT.ext hb2
              clear hO2 hb2
              go_wp2_with (with_reducible refine stop_at 63 ?_)
              refine Stop.go (wpList_val rfl (r_loadBlk rfl hS2 Try.underlying28 rfl (size28 _ _ _ _ _)) ?_)
              go_wp2_with (with_reducible refine stop_st 3 63 ?_)
              refine Stop.go (wpList_store_blk rfl rfl rfl rfl hT.row rfl (size28 _ _ _ _ _) (by simp [recV, Value.oneCell']) ?_)
              intro v3 hZ hO3
              replace hT := hT.set hZ hO3
              clear hO3 hZ hS2
              go_wp2_with (with_reducible refine stop_at 67 ?_)
              refine Stop.go (Two.app (hT.ext ((Below.refl _ _).alloc (Nat.le_refl _) _)) rfl rfl rfl rfl (Blk.new _ _ 3) (by omega) fun v' x1 hT1 => ?_)
              clear hT
              go_wp2_with (with_reducible refine stop_at 70 ?_)
              refine Stop.go (Two.app (hT1.swap.ext ((Below.refl _ _).alloc (Nat.le_refl _) _)) rfl rfl rfl rfl (Blk.new _ _ 3) (by have := HBN.out.len; omega) fun v'' x2 hT2 => ?_)
              clear hT1
              go_wp2
              go_roundw
              case rel => exact ⟨k + 1, _, _, nw, la ++ [nw], lb ++ [1], by omega, by go_num, rfl, by omega, by simp; omega, HBN.out.event HME.out (.inl ⟨rfl, rfl, hM1⟩), hT2.swap⟩
              case measure => simp [intOf]; omega
          · have h43' : (m4 == 3) = false := by simpa using h43
            have hT := HT.out
            go_wp2_with (with_reducible refine stop_at 57 ?_)
            refine Stop.go (wpList_val rfl (r_loadBlk rfl hT.row Try.underlying28 rfl (size28 _ _ _ _ _)) ?_)
            go_wp2_with fail
            refine (charge_any 1 _ t a 0 nw _ ⟨ht0, ht5⟩ (by omega) (by omega)).mono ?_
            rintro _ v1 ⟨rfl, hb1⟩
            replace hT := hT.ext hb1
            clear hb1
            by_cases hM : M < 1
            · have HC : Hid (chM 1 ⟨#[117]⟩ t a 0 nw = (recV 0 ⟨#[]⟩ 0 0 0, false)) := Lib.hid (by unfold chM; rw [HME.out, if_pos hM])
              rw [HC.out]
              go_wp2_with (with_reducible refine stop_st 9 60 ?_)
              refine Stop.go (wpList_store_blk rfl rfl rfl rfl (Blk.new v1 _ 28) rfl (size28 _ _ _ _ _) (by simp [recV, Value.oneCell']) ?_)
              intro v2 hS2 hO2
              have hb2 : Below v1.heap.size v1 v2 := ((Below.refl _ _).alloc (Nat.le_refl _) _).trans (hO2.below (Nat.le_refl _) (by simp))
              replace hT := hT.ext hb2
              clear hO2 hb2 hS2
              go_wp2
              go_roundw
              case rel => exact ⟨k + 1, t, a, nw, la, lb, by omega, by go_num, rfl, by omega, by omega, HBN.out, hT⟩
              case measure => simp [intOf]; omega
            · have HC : Hid (chM 1 ⟨#[117]⟩ t a 0 nw = (recV 1 ⟨#[117]⟩ (M - 1) E 0, true)) := Lib.hid (by unfold chM; rw [HME.out, if_neg hM])
              rw [HC.out]
              have hM1 : 1 ≤ M := by omega
              go_wp2_with (with_reducible refine stop_st 9 60 ?_)
              refine Stop.go (wpList_store_blk rfl rfl rfl rfl (Blk.new v1 _ 28) rfl (size28 _ _ _ _ _) (by simp [recV, Value.oneCell']) ?_)
              intro v2 hS2 hO2
              have hb2 : Below v1.heap.size v1 v2 := ((Below.refl _ _).alloc (Nat.le_refl _) _).trans (hO2.below (Nat.le_refl _) (by simp))
              replace hT := hT.ext hb2
              clear hO2 hb2
              go_wp2_with (with_reducible refine stop_at 63 ?_)
              refine Stop.go (wpList_val rfl (r_loadBlk rfl hS2 Try.underlying28 rfl (size28 _ _ _ _ _)) ?_)
              go_wp2_with (with_reducible refine stop_st 3 63 ?_)
              refine Stop.go (wpList_store_blk rfl rfl rfl rfl hT.row rfl (size28 _ _ _ _ _) (by simp [recV, Value.oneCell']) ?_)
              intro v3 hZ hO3
              replace hT := hT.set hZ hO3
              clear hO3 hZ hS2
              go_wp2_with (with_reducible refine stop_at 67 ?_)
              refine Stop.go (Two.app (hT.ext ((Below.refl _ _).alloc (Nat.le_refl _) _)) rfl rfl rfl rfl (Blk.new _ _ 3) (by omega) fun v' x1 hT1 => ?_)
              clear hT
              go_wp2_with (with_reducible refine stop_at 70 ?_)
              refine Stop.go (Two.app (hT1.swap.ext ((Below.refl _ _).alloc (Nat.le_refl _) _)) rfl rfl rfl rfl (Blk.new _ _ 3) (by have := HBN.out.len; omega) fun v'' x2 hT2 => ?_)
              clear hT1
              go_wp2
              go_roundw
              case rel => exact ⟨k + 1, _, _, nw, la ++ [nw], lb ++ [1], by omega, by go_num, rfl, by omega, by simp; omega, HBN.out.event HME.out (.inl ⟨rfl, rfl, hM1⟩), hT2.swap⟩
              case measure => simp [intOf]; omega
      · have hk8' : ¬ (k : Int) < 80 := by omega
        have hkl' : (k : Int) < (l.length : Int) := by omega
        go_wp2_with fail
        obtain ⟨aa, ca, rfl, hca, hcam⟩ := hT.a.len
        obtain ⟨ab, cb, rfl, hcb, hcbm⟩ := hT.b.len
        unfold maxLen at hcam hcbm
        have HLEN := Lib.hid HB.out.len
        go_loopw [11, 12, 13] (fun i _ _ wr => ∃ (i1 : Nat), i1 ≤ la.length ∧ i = .int .i64 i1 ∧ Two gr (recV 1 ⟨#[117]⟩ t a 0) w (.slice aa la.length ca) (.slice ab lb.length cb) la lb wr) (fun i _ _ _ => (la.length + 1 - intOf i).toNat)
        case atStart => exact ⟨0, by omega, rfl, hT⟩
        case round =>
          clear hT
          obtain ⟨i1, hi1, rfl, hT⟩ := hrel
          by_cases hlt : i1 < la.length
          · have hlt' : (i1 : Int) < (la.length : Int) := by omega
            obtain ⟨ga, _, hea, hcella⟩ := hT.a.cell (by intro h; rw [h] at hlt; simp at hlt)
            obtain ⟨gb, _, heb, hcellb⟩ := hT.b.cell (by intro h; have hlen := HLEN.out; rw [h] at hlen; simp at hlen; rw [hlen] at hlt; simp at hlt)
            simp only [Value.slice.injEq] at hea heb
            obtain ⟨rfl, -, -⟩ := hea
            obtain ⟨rfl, -, -⟩ := heb
            clear hcella hcellb
            go_wp2_with fail
            go_loopw [13, 12] (fun k2 s wr => ∃ (k2' : Nat), i1 ≤ k2' ∧ k2' ≤ la.length ∧ k2 = .int .i64 k2' ∧ s = .int .i64 (wsum lb i1 k2') ∧ Two gr (recV 1 ⟨#[117]⟩ t a 0) w (.slice (some ⟨ga, 0, none⟩) la.length ca) (.slice (some ⟨gb, 0, none⟩) lb.length cb) la lb wr) (fun k2 _ _ => (la.length + 1 - intOf k2).toNat)
            case atStart => exact ⟨i1, by omega, by omega, rfl, by rw [wsum_self], hT⟩
            case round =>
              clear hT
              obtain ⟨k2, hik, hkm, rfl, rfl, hT⟩ := hrel
              by_cases hk2 : k2 < la.length
              · have hk2' : (k2 : Int) < (la.length : Int) := by omega
                have hk2b : (k2 : Int) < (lb.length : Int) := by have := HLEN.out; omega
                obtain ⟨ga', _, hea, hcella⟩ := hT.a.cell (by intro h; rw [h] at hlt; simp at hlt)
                obtain ⟨gb', _, heb, hcellb⟩ := hT.b.cell (by intro h; have hlen := HLEN.out; rw [h] at hlen; simp at hlen; rw [hlen] at hlt; simp at hlt)
                simp only [Value.slice.injEq, Option.some.injEq, Addr.mk.injEq] at hea heb
                obtain ⟨⟨rfl, -, -⟩, -, -⟩ := hea
                obtain ⟨⟨rfl, -, -⟩, -, -⟩ := heb
                obtain ⟨b, hb⟩ : ∃ b, lb[k2]? = some b := ⟨lb[k2]'(by omega), by simp⟩
                obtain ⟨y, hy⟩ : ∃ y, la[k2]? = some y := ⟨la[k2], by simp [hk2]⟩
                obtain ⟨x, hx⟩ : ∃ x, la[i1]? = some x := ⟨la[i1], by simp [hlt]⟩
                have c1 := hcellb k2 b hb
                have c2 := hcella k2 y hy
                have c3 := hcella i1 x hx
                have hws := wsum_succ lb i1 k2 b hik hb
                have hwin := HB.out.win i1 k2 x y hik hx hy
                have hasc := HB.out.asc i1 k2 x y hik hx hy
                have hrx := HB.out.rng i1 x hx
                have hry := HB.out.rng k2 y hy
                have habs := wsum_abs lb HB.out.one i1 (k2 + 1) (by omega) (by have := HLEN.out; omega)
                clear hcella hcellb
                obtain ⟨S, hS⟩ : ∃ S, S = wsum lb i1 (k2 + 1) := ⟨_, rfl⟩
                rw [← hS] at hws hwin habs
                have HS := Lib.hid hS
                have HWS := Lib.hid hws
                clear hS hws
                obtain ⟨q, hq⟩ : ∃ q, q = (y - x + 10) / 10 := ⟨_, rfl⟩
                have hqb : ¬ 5 + q < S := by omega
                have hqr : 0 ≤ q ∧ q ≤ 100000 := by omega
                have HQ := Lib.hid hq
                clear hq hb hy hx
                go_wp2_with (with_reducible refine stop_at 89 ?_)
                refine Stop.go (wpList_val rfl (r_addI rfl rfl ⟨HWS.out.symm, by omega⟩) ?_)
                go_wp2_with fail
                refine wp_region_VE (bt := 5) (fun _ => true) (fun ix => (lookL [.int .i64 S, .slice (some ⟨ga, 0, none⟩) la.length ca, .int .i64 k2, .pointer (some ⟨ga, k2, none⟩), .int .i64 y, .slice (some ⟨ga, 0, none⟩) la.length ca, .int .i64 i1, .pointer (some ⟨ga, i1, none⟩), .int .i64 x, .int .i64 (y - x), .int .i64 (y - x + 10), .int .i64 q, .int .i64 (5 + q), .bool false] ix).getD undef) (fun _ _ _ => True) (by kernel_rfl) (by kernel_rfl) (by kernel_rfl) (fun _ _ _ _ _ _ => trivial) fun x_ => ?_
                refine VE_ex (v := .int .i64 S) rfl rfl rfl (fun u hu hf => r_move (rho_base rfl rfl)) ?_
                refine VE_ex (v := .slice (some ⟨ga, 0, none⟩) la.length ca) rfl rfl rfl (fun u hu hf => r_move (rho_base rfl rfl)) ?_
                refine VE_ex (v := .int .i64 k2) rfl rfl rfl (fun u hu hf => r_move (rho_base rfl rfl)) ?_
                refine VE_ex (v := .pointer (some ⟨ga, k2, none⟩)) rfl rfl rfl (fun u hu hf => r_indexSl (rho_env rfl) (rho_env rfl) sl41 ⟨by omega, by omega, (by omega : k2 = 0 + (k2 : Int).toNat)⟩) ?_
                refine VE_ex (v := .int .i64 y) rfl rfl rfl (fun u hu hf => r_load (rho_env rfl) on3 (hu.cell c2)) ?_
                refine VE_ex (v := .slice (some ⟨ga, 0, none⟩) la.length ca) rfl rfl rfl (fun u hu hf => r_move (rho_base rfl rfl)) ?_
                refine VE_ex (v := .int .i64 i1) rfl rfl rfl (fun u hu hf => r_move (rho_base rfl rfl)) ?_
                refine VE_ex (v := .pointer (some ⟨ga, i1, none⟩)) rfl rfl rfl (fun u hu hf => r_indexSl (rho_env rfl) (rho_env rfl) sl41 ⟨by omega, by omega, (by omega : i1 = 0 + (i1 : Int).toNat)⟩) ?_
                refine VE_ex (v := .int .i64 x) rfl rfl rfl (fun u hu hf => r_load (rho_env rfl) on3 (hu.cell c3)) ?_
                refine VE_ex (v := .int .i64 (y - x)) rfl rfl rfl (fun u hu hf => r_subI (rho_env rfl) (rho_env rfl) ⟨rfl, by omega⟩) ?_
                refine VE_ex (v := .int .i64 (y - x + 10)) rfl rfl rfl (fun u hu hf => r_addI (rho_env rfl) rho_const ⟨rfl, by omega⟩) ?_
                refine VE_ex (v := .int .i64 q) rfl rfl rfl (fun u hu hf => r_quoI (rho_env rfl) rho_const (by omega) (by decide) HQ.out.symm) ?_
                refine VE_ex (v := .int .i64 (5 + q)) rfl rfl rfl (fun u hu hf => r_addI rho_const (rho_env rfl) ⟨rfl, by omega⟩) ?_
                refine VE_ex (v := .bool false) rfl rfl rfl (fun u hu hf => (r_gtrI (rho_env rfl) (rho_env rfl)).trans (by rw [decide_eq_false (by omega)])) ?_
                refine VE_nil fun u hu hf => ?_
                rw [withEnv_norm (rfl : setsL _ 0 _ = [_, _, _, _, _, _, _, _, _, _, _, _, _, _, _, _, _, _, _, _, _, _, _, _, _, _, _, _, _, _, _, _, _, _, _, _, _, _, _, _, _, _, _, _, _, _, _, _, _, _, _, _, _, _, _, _, _, _, _, _, _, _, _, _, _, _, _, _, _, _, _, _, _, _, _, _, _, _, _, _, _, _, _, _, _, _, _, _, _, _, _, _, _, _, _, _, _, _, _, _, _, _, _, _])]
                replace hT := hT.ext hu.below
                clear hf hu c1 c2 c3
                go_wp2
                go_roundw
                case rel => exact ⟨k2 + 1, by omega, by omega, by go_num, by rw [HS.out], hT⟩
                case measure => simp [intOf]; omega
              · have hk2' : ¬ (k2 : Int) < (la.length : Int) := by omega
                go_wp2
                go_roundw
                case rel => exact ⟨i1 + 1, by omega, by go_num, hT⟩
                case measure => simp [intOf]; omega
          · have hlt' : ¬ (i1 : Int) < (la.length : Int) := by omega
            go_wp2
            go_ret
            exact ⟨rfl, hT.below⟩
    · have hkl' : ¬ (k : Int) < (l.length : Int) := by omega
      go_wp2_with fail
      obtain ⟨aa, ca, rfl, hca, hcam⟩ := hT.a.len
      obtain ⟨ab, cb, rfl, hcb, hcbm⟩ := hT.b.len
      unfold maxLen at hcam hcbm
      have HLEN := Lib.hid HB.out.len
      go_loopw [11, 12, 13] (fun i _ _ wr => ∃ (i1 : Nat), i1 ≤ la.length ∧ i = .int .i64 i1 ∧ Two gr (recV 1 ⟨#[117]⟩ t a 0) w (.slice aa la.length ca) (.slice ab lb.length cb) la lb wr) (fun i _ _ _ => (la.length + 1 - intOf i).toNat)
      case atStart => exact ⟨0, by omega, rfl, hT⟩
      case round =>
        clear hT
        obtain ⟨i1, hi1, rfl, hT⟩ := hrel
        by_cases hlt : i1 < la.length
        · have hlt' : (i1 : Int) < (la.length : Int) := by omega
          obtain ⟨ga, _, hea, hcella⟩ := hT.a.cell (by intro h; rw [h] at hlt; simp at hlt)
          obtain ⟨gb, _, heb, hcellb⟩ := hT.b.cell (by intro h; have hlen := HLEN.out; rw [h] at hlen; simp at hlen; rw [hlen] at hlt; simp at hlt)
          simp only [Value.slice.injEq] at hea heb
          obtain ⟨rfl, -, -⟩ := hea
          obtain ⟨rfl, -, -⟩ := heb
          clear hcella hcellb
          go_wp2_with fail
          go_loopw [13, 12] (fun k2 s wr => ∃ (k2' : Nat), i1 ≤ k2' ∧ k2' ≤ la.length ∧ k2 = .int .i64 k2' ∧ s = .int .i64 (wsum lb i1 k2') ∧ Two gr (recV 1 ⟨#[117]⟩ t a 0) w (.slice (some ⟨ga, 0, none⟩) la.length ca) (.slice (some ⟨gb, 0, none⟩) lb.length cb) la lb wr) (fun k2 _ _ => (la.length + 1 - intOf k2).toNat)
          case atStart => exact ⟨i1, by omega, by omega, rfl, by rw [wsum_self], hT⟩
          case round =>
            clear hT
            obtain ⟨k2, hik, hkm, rfl, rfl, hT⟩ := hrel
            by_cases hk2 : k2 < la.length
            · have hk2' : (k2 : Int) < (la.length : Int) := by omega
              have hk2b : (k2 : Int) < (lb.length : Int) := by have := HLEN.out; omega
              obtain ⟨ga', _, hea, hcella⟩ := hT.a.cell (by intro h; rw [h] at hlt; simp at hlt)
              obtain ⟨gb', _, heb, hcellb⟩ := hT.b.cell (by intro h; have hlen := HLEN.out; rw [h] at hlen; simp at hlen; rw [hlen] at hlt; simp at hlt)
              simp only [Value.slice.injEq, Option.some.injEq, Addr.mk.injEq] at hea heb
              obtain ⟨⟨rfl, -, -⟩, -, -⟩ := hea
              obtain ⟨⟨rfl, -, -⟩, -, -⟩ := heb
              obtain ⟨b, hb⟩ : ∃ b, lb[k2]? = some b := ⟨lb[k2]'(by omega), by simp⟩
              obtain ⟨y, hy⟩ : ∃ y, la[k2]? = some y := ⟨la[k2], by simp [hk2]⟩
              obtain ⟨x, hx⟩ : ∃ x, la[i1]? = some x := ⟨la[i1], by simp [hlt]⟩
              have c1 := hcellb k2 b hb
              have c2 := hcella k2 y hy
              have c3 := hcella i1 x hx
              have hws := wsum_succ lb i1 k2 b hik hb
              have hwin := HB.out.win i1 k2 x y hik hx hy
              have hasc := HB.out.asc i1 k2 x y hik hx hy
              have hrx := HB.out.rng i1 x hx
              have hry := HB.out.rng k2 y hy
              have habs := wsum_abs lb HB.out.one i1 (k2 + 1) (by omega) (by have := HLEN.out; omega)
              clear hcella hcellb
              obtain ⟨S, hS⟩ : ∃ S, S = wsum lb i1 (k2 + 1) := ⟨_, rfl⟩
              rw [← hS] at hws hwin habs
              have HS := Lib.hid hS
              have HWS := Lib.hid hws
              clear hS hws
              obtain ⟨q, hq⟩ : ∃ q, q = (y - x + 10) / 10 := ⟨_, rfl⟩
              have hqb : ¬ 5 + q < S := by omega
              have hqr : 0 ≤ q ∧ q ≤ 100000 := by omega
              have HQ := Lib.hid hq
              clear hq hb hy hx
              go_wp2_with (with_reducible refine stop_at 89 ?_)
              refine Stop.go (wpList_val rfl (r_addI rfl rfl ⟨HWS.out.symm, by omega⟩) ?_)
              go_wp2_with fail
              refine wp_region_VE (bt := 5) (fun _ => true) (fun ix => (lookL [.int .i64 S, .slice (some ⟨ga, 0, none⟩) la.length ca, .int .i64 k2, .pointer (some ⟨ga, k2, none⟩), .int .i64 y, .slice (some ⟨ga, 0, none⟩) la.length ca, .int .i64 i1, .pointer (some ⟨ga, i1, none⟩), .int .i64 x, .int .i64 (y - x), .int .i64 (y - x + 10), .int .i64 q, .int .i64 (5 + q), .bool false] ix).getD undef) (fun _ _ _ => True) (by kernel_rfl) (by kernel_rfl) (by kernel_rfl) (fun _ _ _ _ _ _ => trivial) fun x_ => ?_
              refine VE_ex (v := .int .i64 S) rfl rfl rfl (fun u hu hf => r_move (rho_base rfl rfl)) ?_
              refine VE_ex (v := .slice (some ⟨ga, 0, none⟩) la.length ca) rfl rfl rfl (fun u hu hf => r_move (rho_base rfl rfl)) ?_
              refine VE_ex (v := .int .i64 k2) rfl rfl rfl (fun u hu hf => r_move (rho_base rfl rfl)) ?_
              refine VE_ex (v := .pointer (some ⟨ga, k2, none⟩)) rfl rfl rfl (fun u hu hf => r_indexSl (rho_env rfl) (rho_env rfl) sl41 ⟨by omega, by omega, (by omega : k2 = 0 + (k2 : Int).toNat)⟩) ?_
              refine VE_ex (v := .int .i64 y) rfl rfl rfl (fun u hu hf => r_load (rho_env rfl) on3 (hu.cell c2)) ?_
              refine VE_ex (v := .slice (some ⟨ga, 0, none⟩) la.length ca) rfl rfl rfl (fun u hu hf => r_move (rho_base rfl rfl)) ?_
              refine VE_ex (v := .int .i64 i1) rfl rfl rfl (fun u hu hf => r_move (rho_base rfl rfl)) ?_
              refine VE_ex (v := .pointer (some ⟨ga, i1, none⟩)) rfl rfl rfl (fun u hu hf => r_indexSl (rho_env rfl) (rho_env rfl) sl41 ⟨by omega, by omega, (by omega : i1 = 0 + (i1 : Int).toNat)⟩) ?_
              refine VE_ex (v := .int .i64 x) rfl rfl rfl (fun u hu hf => r_load (rho_env rfl) on3 (hu.cell c3)) ?_
              refine VE_ex (v := .int .i64 (y - x)) rfl rfl rfl (fun u hu hf => r_subI (rho_env rfl) (rho_env rfl) ⟨rfl, by omega⟩) ?_
              refine VE_ex (v := .int .i64 (y - x + 10)) rfl rfl rfl (fun u hu hf => r_addI (rho_env rfl) rho_const ⟨rfl, by omega⟩) ?_
              refine VE_ex (v := .int .i64 q) rfl rfl rfl (fun u hu hf => r_quoI (rho_env rfl) rho_const (by omega) (by decide) HQ.out.symm) ?_
              refine VE_ex (v := .int .i64 (5 + q)) rfl rfl rfl (fun u hu hf => r_addI rho_const (rho_env rfl) ⟨rfl, by omega⟩) ?_
              refine VE_ex (v := .bool false) rfl rfl rfl (fun u hu hf => (r_gtrI (rho_env rfl) (rho_env rfl)).trans (by rw [decide_eq_false (by omega)])) ?_
              refine VE_nil fun u hu hf => ?_
              rw [withEnv_norm (rfl : setsL _ 0 _ = [_, _, _, _, _, _, _, _, _, _, _, _, _, _, _, _, _, _, _, _, _, _, _, _, _, _, _, _, _, _, _, _, _, _, _, _, _, _, _, _, _, _, _, _, _, _, _, _, _, _, _, _, _, _, _, _, _, _, _, _, _, _, _, _, _, _, _, _, _, _, _, _, _, _, _, _, _, _, _, _, _, _, _, _, _, _, _, _, _, _, _, _, _, _, _, _, _, _, _, _, _, _, _, _])]
              replace hT := hT.ext hu.below
              clear hf hu c1 c2 c3
              go_wp2
              go_roundw
              case rel => exact ⟨k2 + 1, by omega, by omega, by go_num, by rw [HS.out], hT⟩
              case measure => simp [intOf]; omega
            · have hk2' : ¬ (k2 : Int) < (la.length : Int) := by omega
              go_wp2
              go_roundw
              case rel => exact ⟨i1 + 1, by omega, by go_num, hT⟩
              case measure => simp [intOf]; omega
        · have hlt' : ¬ (i1 : Int) < (la.length : Int) := by omega
          go_wp2
          go_ret
          exact ⟨rfl, hT.below⟩
end Go.Proofs.Ythpjihiikkhcjaa
