/-
  A part of the proofs of this seat: laws of the walk, or contracts of the functions that the statements reach. No conditions but those that each theorem names.
-/
import Derived.Test.YtbbpcgodjncflaaT2x
namespace Go.Proofs.Ytbbpcgodjncflaa
open Go.RowKit Go.Sp
set_option maxRecDepth 100000 in
set_option maxHeartbeats 2000000 in
theorem rstream_any (kv : Value) (key : List UInt8) (n : Nat) (hn : n ≤ 1000) (w : World) (hk : Byt w kv key) (hkl : key.length ≤ 549755813888) :
    Calls Try.prog 33 #[kv, .int .i64 n] w fun e w' => ∃ v', e = .returned v' ∧ Byt w' v' (streamB key n) ∧ Below w.heap.size w w' := by
  have HK := Lib.hid hk
  obtain ⟨ka, kc, rfl, hkc, hkm⟩ := hk.len
  clear hk
  have h2 : ¬ ((1000 : Int) < n) := by omega
  go_enter Try.func33, Try.ntmps33
  go_wp2
  go_loopw [5, 6] (fun o i wr => ∃ k : Nat, i = .int .i64 k ∧ 16 * k < n + 16 ∧ Sp.Own 5 w.heap.size wr o (strm key k) ∧ Below w.heap.size w wr) (fun _ i _ => (n + 16 - 16 * intOf i).toNat)
  case atStart => exact ⟨0, rfl, by omega, Own.nil _ _ _, Below.refl _ _⟩
  case round =>
    obtain ⟨k, rfl, hk16, ho, hbw⟩ := hrel
    have hsl := strm_length key k
    obtain ⟨oa, oc, rfl, hoc, hom⟩ := ho.byt.len
    unfold maxLen at hom
    rw [hsl] at hoc ⊢
    have HSL := Lib.hid hsl
    clear hsl
    by_cases hlt : 16 * k < n
    · have hlt' : (((16 * k : Nat) : Int)) < (n : Int) := by omega
      go_wp2_with fail
      refine (eight_any k _).mono ?_
      rintro _ v1 ⟨ev, rfl, hE0, hb1⟩
      have hE := hE0.byt
      obtain ⟨ea, ec, rfl, hec, hem⟩ := hE.len
      unfold maxLen at hem
      have ho1 := ho.below hb1
      have hbw1 := hbw.trans (hb1.mono hbw.size)
      clear hE0 hb1 ho hbw
      go_wp2_with fail
      have ha := (Below.refl v1.heap.size v1).alloc (Nat.le_refl _) (.cells #[.slice ea (eight (k : Int)).length ec] 29)
      have hKr := (HK.out.ext hbw1).ext ha
      refine (rmac_any _ _ key [eight (k : Int)] _ hKr hkl (Lst.one hE) (by rw [flat1, eight_length]; decide)).mono ?_
      rintro _ v2 ⟨rfl, hb2⟩
      have hbb := ha.trans (hb2.mono ha.size)
      have ho2 := ho1.below hbb
      have hbw2 := hbw1.trans (hbb.mono hbw1.size)
      clear ha hKr hb2 hbb ho1 hbw1 hE hec hem
      have hss := strm_succ key k
      have hMl := macB_length key [eight (k : Int)]
      generalize macB key [eight (k : Int)] = M at *
      have HSS := Lib.hid hss
      clear hss
      go_wp2_with fail
      refine (rbytes_any M _ hMl).mono ?_
      rintro _ v3 ⟨bv, rfl, hbo, hb3⟩
      have hbv := hbo.byt
      have ho3 := ho2.below hb3
      have hbw3 := hbw2.trans (hb3.mono hbw2.size)
      have hsw3 := hbw3.size
      clear hbo hb3 ho2 hbw2
      go_wp2_with (at_builtin; refine stop_here ?_)
      have ho3' : Sp.Own 5 w.heap.size v3 (.slice oa (16 * k) oc) (strm key k) := by rw [HSL.out] at ho3; exact ho3
      refine Stop.go (wpList_append_byt rfl rfl byt29 ho3' hbv rfl rfl (by rw [HSL.out, hMl]; omega) hsw3 ?_)
      intro v' v4 ho4 hg4 _
      rw [← HSS.out] at ho4
      have hbw4 := hbw3.trans (toBelow hg4 hsw3 (fun j hj => (ho3'.lt j hj).1))
      clear ho3 ho3' hg4 hbw3 hbv
      go_wp2
      go_roundw
      case rel => exact ⟨k + 1, by go_num, by omega, ho4, hbw4⟩
      case measure => simp [intOf]; omega
    · have hge' : ¬ (((16 * k : Nat) : Int)) < (n : Int) := by omega
      go_wp2_with (refine (show wpList _ _ _ (⟨some 25, .call _, _, _, _, _⟩ :: _) _ _ from stop_here ?_))
      refine Stop.go (wpList_val rfl (r_max (c := (n : Int)) rfl rfl (by omega)) ?_)
      go_wp2_with (refine (show wpList _ _ _ (⟨some 26, .slice _ _ _ _ _, _, _, _, _⟩ :: _) _ _ from stop_here ?_))
      refine Stop.go (wpList_val rfl (r_slH (hi := n) sl1_29 rfl rfl (by omega)) ?_)
      have hcut := ho.byt.cut 0 n (by omega) (by rw [HSL.out]; omega)
      rw [List.drop_zero] at hcut
      have hst : streamB key n = (strm key k).take n := by
        unfold streamB
        by_cases h0 : n = 0
        · subst h0; simp
        · rw [show (n + 15) / 16 = k by omega]
      rw [← hst] at hcut
      clear ho hst
      go_wp2
      go_ret
      exact ⟨_, rfl, hcut, hbw⟩
end Go.Proofs.Ytbbpcgodjncflaa
