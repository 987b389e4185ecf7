/-
  A part of the proofs of this seat: laws of the walk, or contracts of the functions that the statements reach. No conditions but those that each theorem names.
-/
import Derived.Test.YtbbpcgodjncflaaLi
namespace Go.Sp
open Go.RowKit
theorem Own.set {e : TypeId} {n : Nat} {w : World} {g L c : Nat} {l : List UInt8} (h : Sp.Own e n w (.slice (some ⟨g, 0, none⟩) L c) l) (q : Nat) (y : UInt8) : Sp.Own e n (w.setCell ⟨g, q, none⟩ (B y)) (.slice (some ⟨g, 0, none⟩) L c) (l.set q y) := by
  rcases h.2 with ⟨h0, _⟩ | ⟨g', cap, cur, hv, hb, hg, hc, hm, hs, ht⟩
  · cases h0
  · simp only [Value.slice.injEq, Option.some.injEq, Addr.mk.injEq, and_true] at hv
    obtain ⟨rfl, hL, rfl⟩ := hv
    subst hL
    refine ⟨by simp, .inr ⟨g, c, cur.setIfInBounds q (B y), by simp, hb, heap_setCell_same w g q cur e (B y) hg, by simpa using hc, hm, by simpa using hs, ?_⟩⟩
    simp only [List.length_set, Array.toList_setIfInBounds, List.take_set, ht, List.map_set]
theorem Own.frozen {e : TypeId} {n : Nat} {w : World} {g o L c : Nat} {l : List UInt8} (h : Sp.Own e n w (.slice (some ⟨g, o, none⟩) L c) l) (q : Nat) : w.frozen? ⟨g, q, none⟩ = false := by
  rcases h.2 with ⟨h0, _⟩ | ⟨g', cap, cur, hv, hb, hg, hc, hm, hs, ht⟩
  · cases h0
  · simp only [Value.slice.injEq, Option.some.injEq, Addr.mk.injEq] at hv
    obtain ⟨⟨rfl, rfl, _⟩, _, rfl⟩ := hv
    unfold World.frozen?
    rw [hg]
    simp
theorem Own.form {e : TypeId} {n : Nat} {w : World} {v : Value} {l : List UInt8} (h : Sp.Own e n w v l) (h0 : 0 < l.length) : ∃ g c, v = .slice (some ⟨g, 0, none⟩) l.length c ∧ n ≤ g ∧ g < w.heap.size ∧ l.length ≤ c ∧ c ≤ maxLen := by
  rcases h.2 with ⟨_, h1⟩ | ⟨g', cap, cur, hv, hb, hg, hc, hm, hs, ht⟩
  · omega
  · exact ⟨g', cap, hv, hb, (Array.getElem?_eq_some_iff.1 hg).1, hc, hm⟩
theorem Own.cell {e : TypeId} {n : Nat} {w : World} {g L c : Nat} {l : List UInt8} (h : Sp.Own e n w (.slice (some ⟨g, 0, none⟩) L c) l) (q : Nat) (hq : q < l.length) : w.cell? ⟨g, q, none⟩ = some (B l[q]) := by
  rcases h.byt with ⟨h0, _⟩ | ⟨g', off, cap, hv, h1, h2, h3, h4⟩
  · cases h0
  · simp only [Value.slice.injEq, Option.some.injEq, Addr.mk.injEq] at hv
    obtain ⟨⟨rfl, rfl, _⟩, _, rfl⟩ := hv
    have := h4 q l[q] (by simp [hq])
    rwa [Nat.zero_add] at this
end Go.Sp
namespace Go.Proofs.Ytbbpcgodjncflaa
open Go.RowKit Go.Sp
set_option maxRecDepth 100000 in
set_option maxHeartbeats 2000000 in
theorem same_main (v : Value) (l : List UInt8) (at_ : Int) (y : UInt8) (cut : Int) (w : World) (hv : Byt w v l) (ha : -9223372036854775808 ≤ at_ ∧ at_ ≤ 9223372036854775807) (hc : -9223372036854775808 ≤ cut ∧ cut ≤ 9223372036854775807) (h0 : 0 < l.length) (h1 : l.length ≤ 300) :
    Calls Try.prog 7 #[v, .int .i64 at_, B y, .int .i64 cut] w fun e w' => e = .returned (.bool true) ∧ Below w.heap.size w w' := by
  have HV := Lib.hid hv
  obtain ⟨ka, kc, rfl, hkc, hkm⟩ := hv.len
  unfold maxLen at hkm
  clear hv
  have h0' : ((l.length : Int) == 0) = false := by simp; intro h; simp [h] at h0
  have h1' : ¬ ((300 : Int) < (l.length : Int)) := by omega
  go_enter Try.func7, Try.ntmps7
  go_wp2_with fail
  refine (known_any _).mono ?_
  rintro _ w1 ⟨rfl, hbw⟩
  go_wp2_with (at_builtin; refine stop_here ?_)
  refine Stop.go (wpList_append_byt rfl rfl byt29 (Own.lit 5 w1.heap.size w1 [] (Nat.le_refl _) (by simp)) ((HV.out.ext hbw).ext ((Below.refl _ _).alloc (Nat.le_refl _) _)) rfl rfl (by simp; omega) (by simp) ?_)
  intro vb w2 ho2 hg2 _
  rw [List.nil_append] at ho2
  have hb2 : Below w1.heap.size w1 w2 := ((Below.refl _ _).alloc (Nat.le_refl _) _).trans (toBelow hg2 (by simp) (by simp [Value.ownBlock]))
  have hbw2 := hbw.trans (hb2.mono hbw.size)
  have hsz := hbw.size
  obtain ⟨g, bc, rfl, hgw, hgl, hbc, hbm⟩ := Own.form ho2 h0
  unfold maxLen at hbm
  clear hg2 hb2 hbw
  go_wp2_with fail
  refine (within_nat at_ _ ha (by omega) (by omega) _).mono ?_
  rintro _ wx ⟨q, rfl, -, hq, rfl⟩
  have hq' : q < l.length := by omega
  have hcq := Own.cell ho2 q hq'
  have hfq := Own.frozen ho2 q
  have hq0 : (0 : Int) ≤ q := by omega
  go_wp2_with fail
  refine (within_nat cut _ hc (by omega) (by omega) _).mono ?_
  rintro _ wx ⟨m, rfl, -, hm, rfl⟩
  have hm' : m ≤ l.length := by omega
  have ho3 := Own.set ho2 q (l[q] + y)
  have hbw3 : Below w.heap.size w (w2.setCell ⟨g, q, none⟩ (.int .u8 (Ub (l[q] + y)))) := hbw2.setCell (p := ⟨g, q, none⟩) (by show _ ≤ g; omega) _
  have hC : Byt (w2.setCell ⟨g, q, none⟩ (.int .u8 (Ub (l[q] + y)))) (cutV ka kc 0 m) (l.take m) := by
    have := (HV.out.ext hbw3).cut 0 m (by omega) hm'
    rwa [List.drop_zero] at this
  have hcv : cutV ka kc 0 m = .slice (cutA ka kc 0) m kc := by simp [cutV]
  go_wp2_with (refine (show wpList _ _ _ (⟨some 40, .slice 29 (.tmp 34) none (some (.tmp 39)) none, _, _, _, _⟩ :: _) _ _ from stop_here ?_))
  refine Stop.go (wpList_val rfl (r_slH (hi := m) sl1_29 rfl rfl (by omega)) ?_)
  rw [hcv] at hC ⊢
  clear hcv hcq hfq hq0 hm hq
  generalize cutA ka kc 0 = ca at *
  obtain ⟨l', hl'⟩ : ∃ l', l' = l.set q (l[q] + y) := ⟨_, rfl⟩
  have hll : l'.length = l.length := by rw [hl']; simp
  rw [← hl'] at ho3
  obtain ⟨e1, hE1⟩ : ∃ e, (l == l') = e := ⟨_, rfl⟩
  obtain ⟨e2, hE2⟩ : ∃ e, (l == l.take m) = e := ⟨_, rfl⟩
  have hF1 : (Ub y == 0) = e1 := by
    rw [← hE1, Bool.eq_iff_iff, beq_iff_eq, beq_iff_eq, hl']
    have hy : Ub y = 0 ↔ y = 0 := Ub_inj y 0
    rw [hy]
    constructor
    · rintro rfl; simp
    · intro h
      have h2 : l[q]? = (l.set q (l[q] + y))[q]? := by rw [← h]
      rw [List.getElem?_set_self hq', List.getElem?_eq_getElem hq', Option.some.injEq] at h2
      have := congrArg (· - l[q]) h2
      simpa [UInt8.add_comm] using this.symm
  have hF2 : ((l.length : Int) == (m : Int)) = e2 := by
    rw [← hE2, Bool.eq_iff_iff, beq_iff_eq, beq_iff_eq]
    constructor
    · intro h
      rw [List.take_of_length_le (by omega)]
    · intro h
      have := congrArg List.length h
      simp at this; omega
  have hE3 : (l.take m == l) = e2 := by rw [← hE2, Bool.eq_iff_iff, beq_iff_eq, beq_iff_eq]; exact eq_comm
  have hF3 : ((m : Int) == (l.length : Int)) = e2 := by rw [← hF2, Bool.eq_iff_iff, beq_iff_eq, beq_iff_eq]; exact eq_comm
  have HL := Lib.hid hll
  have E1 := Lib.hid hE1
  have E2 := Lib.hid hE2
  have E3 := Lib.hid hE3
  clear hll hl' hE1 hE2 hE3 ho2 hbw2
  generalize w2.setCell _ _ = w3 at *
  go_wp2_with fail
  refine (same_any _ _ l l' _ (HV.out.ext hbw3) ho3.byt (by omega)).mono ?_
  rintro _ w4 ⟨rfl, hb4⟩
  rw [E1.out]
  have hC4 := hC.ext hb4
  have hbw4 := hbw3.trans (hb4.mono hbw3.size)
  clear hC hb4 hbw3 ho3
  go_wp2_with fail
  refine (same_any _ _ l (l.take m) _ (HV.out.ext hbw4) hC4 (by omega)).mono ?_
  rintro _ w5 ⟨rfl, hb5⟩
  rw [E2.out]
  have hC5 := hC4.ext hb5
  have hbw5 := hbw4.trans (hb5.mono hbw4.size)
  clear hC4 hb5 hbw4
  go_wp2_with fail
  refine (same_any _ _ (l.take m) l _ hC5 (HV.out.ext hbw5) (by simp; omega)).mono ?_
  rintro _ w6 ⟨rfl, hb6⟩
  rw [E3.out]
  have hbw6 := hbw5.trans (hb6.mono hbw5.size)
  clear hC5 hb6 hbw5
  go_wp2_with fail
  refine (same_any _ _ [] [] _ (Byt.nil _) (Byt.ofBlk (l := []) (Blk.new w6 _ 5) (by simp)) (by simp)).mono ?_
  rintro _ w7 ⟨rfl, hb7⟩
  have hbw7 := (hbw6.alloc hbw6.size _).trans (hb7.mono (by have := hbw6.size; simp; omega))
  clear hb7 hbw6
  go_wp2
  go_ret
  exact ⟨rfl, hbw7⟩
set_option maxRecDepth 100000 in
set_option maxHeartbeats 2000000 in
theorem samelaw_any (v : Value) (l : List UInt8) (at_ n cut : Int) (w : World) (hv : Byt w v l) (ha : -9223372036854775808 ≤ at_ ∧ at_ ≤ 9223372036854775807) (hn : 0 ≤ n ∧ n < 256) (hc : -9223372036854775808 ≤ cut ∧ cut ≤ 9223372036854775807) :
    Calls Try.prog 7 #[v, .int .i64 at_, .int .u8 n, .int .i64 cut] w fun e w' => e = .returned (.bool true) ∧ Below w.heap.size w w' := by
  rw [B_ofInt n hn.1 hn.2]
  by_cases h : 0 < l.length ∧ l.length ≤ 300
  · exact same_main v l at_ _ cut w hv ha hc h.1 h.2
  · obtain ⟨ka, kc, rfl, _, hkm⟩ := hv.len
    unfold maxLen at hkm
    clear hv
    have hh : l.length = 0 ∨ (((l.length : Int) == 0) = false ∧ (300 : Int) < (l.length : Int)) := by
      by_cases h0 : l.length = 0
      · exact .inl h0
      · refine .inr ⟨by simp; intro e; exact h0 (by simp [e]), by omega⟩
    clear h
    rcases hh with hh | ⟨hh, hh'⟩
    · rw [hh]
      clear hh
      generalize UInt8.ofNat n.toNat = y
      go_enter Try.func7, Try.ntmps7
      go_wp2_with fail
      refine (known_any _).mono ?_
      rintro _ w1 ⟨rfl, hb1⟩
      go_wp2
      go_ret
      exact ⟨rfl, hb1⟩
    · generalize UInt8.ofNat n.toNat = y
      go_enter Try.func7, Try.ntmps7
      go_wp2_with fail
      refine (known_any _).mono ?_
      rintro _ w1 ⟨rfl, hb1⟩
      go_wp2
      go_ret
      exact ⟨rfl, hb1⟩
end Go.Proofs.Ytbbpcgodjncflaa
