/-
  A part of the proofs of this seat: laws of the walk, or contracts of the functions that the statements reach. No conditions but those that each theorem names.
-/
import Derived.Test.YthpjihiikkhcjaaJ
import Derived.Test.YthpjihiikkhcjaaRes
namespace Go.Sp
open Go.RowKit
/-- A slice of slices of bytes. -/
def Lst (w : World) (v : Value) (ls : List (List UInt8)) : Prop :=
  (v = .slice none 0 0 ∧ ls = []) ∨
  ∃ g off cap, v = .slice (some ⟨g, off, none⟩) ls.length cap ∧ ls.length ≤ cap ∧ cap ≤ maxLen ∧ g < w.heap.size ∧ ∀ (i : Nat) (l : List UInt8), ls[i]? = some l → ∃ u, w.cell? ⟨g, off + i, none⟩ = some u ∧ Byt w u l
theorem Lst.ext {w w' : World} {v : Value} {ls : List (List UInt8)} (h : Lst w v ls) (e : Below w.heap.size w w') : Lst w' v ls := by
  rcases h with h | ⟨g, off, cap, rfl, h1, h2, h3, h4⟩
  · exact .inl h
  · refine .inr ⟨g, off, cap, rfl, h1, h2, Nat.lt_of_lt_of_le h3 e.size, fun i l hi => ?_⟩
    obtain ⟨u, hu, hb⟩ := h4 i l hi
    exact ⟨u, (World.cell?_of_block (a := ⟨g, off + i, none⟩) (e.block g h3)).trans hu, hb.ext e⟩
theorem Lst.nil (w : World) : Lst w (.slice none 0 0) [] := .inl ⟨rfl, rfl⟩
theorem Byt.lt' {w : World} {v : Value} {l : List UInt8} (h : Byt w v l) : ∀ k, v.ownBlock = some k → k < w.heap.size := by
  intro k hk
  rcases h with ⟨rfl, _⟩ | ⟨g, off, cap, rfl, _, _, h3, _⟩ <;> simp [Value.ownBlock] at hk
  subst hk; exact h3
theorem flat_snoc (ls : List (List UInt8)) (l : List UInt8) : flat (ls ++ [l]) = flat ls ++ (eight l.length ++ l) := by simp [flat]
end Go.Sp
namespace Go.Proofs.Ythpjihiikkhcjaa
open Go.RowKit Go.Sp
set_option maxRecDepth 100000 in
set_option maxHeartbeats 2000000 in
theorem put_any (p : Nat) (s : S8) (wv v : Value) (ls : List (List UInt8)) (w0 w : World) (hp : Blk w p (s.cells wv) 86) (hw : Byt w wv []) (hne : wv.ownBlock ≠ some p)
    (hL : Lst w0 v ls) (hb : Below w0.heap.size w0 w) (hp0 : w0.heap.size ≤ p) (hls : ∀ l ∈ ls, l.length ≤ 549755813888) :
    Calls Try.prog 53 #[.pointer (some ⟨p, 0, none⟩), v] w fun e w' => e = .returned (.agg ((sumB s (flat ls)).map B).toArray) ∧ Only p w w' := by
  have hlen : ∃ a c, v = .slice a ls.length c ∧ c ≤ maxLen ∧ ls.length ≤ c := by
    rcases hL with ⟨rfl, rfl⟩ | ⟨g, off, cap, rfl, h1, h2, _⟩
    · exact ⟨none, 0, rfl, by unfold maxLen; omega, by simp⟩
    · exact ⟨_, _, rfl, h2, h1⟩
  obtain ⟨a, c, rfl, hcm, hlc⟩ := hlen
  unfold maxLen at hcm
  have hplt := hp.lt
  have HHB := Lib.hid hb
  have HLL := Lib.hid hL
  have HLS := Lib.hid hls
  clear hb hL hls
  go_enter Try.func53, Try.ntmps53
  go_wp2
  go_loopw [9, 6] (fun i _ wr => ∃ (k : Nat) (s' : S8) (l' : List UInt8) (wv' : Value), k ≤ ls.length ∧ i = .int .i64 k ∧ Blk wr p (s'.cells wv') 86 ∧ Byt wr wv' l' ∧ wv'.ownBlock ≠ some p ∧ absAll s (flat (ls.take k)) = (s', l') ∧ Only p w wr ∧ Blk wr w.heap.size ((List.replicate 16 (0 : UInt8)).map B).toArray 65) (fun i _ _ => (ls.length - intOf i).toNat)
  case atStart =>
    refine ⟨0, s, [], wv, by omega, rfl, hp.alloc _, hw.ext ((Below.refl _ _).alloc (Nat.le_refl _) _), hne, ?_, (Only.refl p w).alloc _, Blk.new w _ 65⟩
    rw [absAll_lt (by simp [flat])]; simp [flat]
  case round =>
    obtain ⟨k, s', l', wv', hk, rfl, hB, hY, hN, hA, hO, hR⟩ := hrel
    have hbw : Below w0.heap.size w0 wr := HHB.out.trans (hO.below hp0 HHB.out.size)
    have hsz := hO.size
    have hl16 : l'.length < 16 := by have := absAll_waits s (flat (ls.take k)); rw [hA] at this; simp only at this; omega
    have HA := Lib.hid hA
    clear hA hp hw hne
    by_cases hlt : k < ls.length
    · obtain ⟨l, hl⟩ : ∃ l, ls[k]? = some l := ⟨ls[k], by simp [hlt]⟩
      have hls := HLS.out l (List.mem_of_getElem? hl)
      rcases HLL.out with ⟨_, rfl⟩ | ⟨g, off, cap, hv, _, _, hg, h4⟩
      · simp at hlt
      simp only [Value.slice.injEq, true_and] at hv
      obtain ⟨rfl, rfl⟩ := hv
      obtain ⟨u, hu, hub⟩ := h4 k l hl
      have hcell : wr.cell? ⟨g, off + k, none⟩ = some u := (World.cell?_of_block (a := ⟨g, off + k, none⟩) (hbw.block g hg)).trans hu
      have hubr := hub.ext hbw
      have hult := hub.lt'
      have HULT := Lib.hid hult
      have HL := Lib.hid hl
      clear h4 hult hl hu hub
      obtain ⟨ua, uc, rfl, _, hum⟩ := hubr.len
      unfold maxLen at hum
      go_wp2_with fail
      refine (number_any _ _).mono ?_
      rintro e w1 ⟨v1, rfl, ho1, hb1⟩
      have hB1 := hB.ext hb1
      have hY1 := hY.ext hb1
      have hR1 := hR.ext hb1
      have hu1 := hubr.ext hb1
      have hO1 := hO.trans (Only.ofBelow hb1 (Nat.le_refl _))
      clear hB hY hR hubr hO hb1 hcell
      go_wp2_with fail
      refine (write_any p s' _ _ l' (eight l.length) w1 hB1 hY1 ho1.byt (by rw [eight_length]; omega)).mono ?_
      rintro e w2 ⟨rfl, h2, wv2, h3, h5, h6, h7⟩
      have hu2 := hu1.only h2 (fun h => by have := HULT.out p h; omega)
      have hR2 := hR1.only h2 (by omega)
      have hO2 := hO1.trans h2
      clear hB1 hY1 ho1 hu1 hR1 hO1 h2 h7
      go_wp2_with fail
      refine (write_any p _ _ _ _ l w2 h3 h5 hu2 (by rw [absAll_waits]; omega)).mono ?_
      rintro e w3 ⟨rfl, g2, wv3, g3, g5, g6, g7⟩
      have hR3 := hR2.only g2 (by omega)
      have hO3 := hO2.trans g2
      have hE : absAll s (flat (ls.take (k + 1))) = absAll (absAll s' (l' ++ eight l.length)).1 ((absAll s' (l' ++ eight l.length)).2 ++ l) := by
        rw [List.take_add_one, HL.out, Option.toList_some, flat_snoc, ← List.append_assoc, absAll_append, absAll_append s, HA.out]
      have HE := Lib.hid hE
      clear h3 h5 h6 hu2 hR2 hO2 g2 g7 hE
      go_wp2
      go_roundw
      case rel => exact ⟨k + 1, _, _, wv3, by omega, by go_num, g3, g5, g6, HE.out, hO3, hR3⟩
      case measure => simp [intOf]; omega
    · obtain rfl : k = ls.length := by omega
      go_wp2_with fail
      refine (sum_any p s' _ l' wr hB hY hl16).mono ?_
      rintro e w1 ⟨rfl, hb1⟩
      have hR1 := hR.ext hb1
      have hO1 := hO.trans (Only.ofBelow hb1 (Nat.le_refl _))
      rw [List.take_length] at HA
      have hS : sumB s' l' = sumB s (flat ls) := by
        have := sumB_abs s (flat ls) []
        rw [HA.out] at this
        simpa using this
      rw [hS]
      have hsz16 : ((sumB s (flat ls)).map B).toArray.size = 16 := by simp [sumB_length]
      have HSZ := Lib.hid hsz16
      have HONE := Lib.hid (bytes_one (sumB s (flat ls)))
      clear hS hsz16
      generalize hOUT : ((sumB s (flat ls)).map B).toArray = OUT at *
      have HOUT := Lib.hid hOUT
      clear hOUT
      go_wp2_with (refine (show wpList _ _ _ (⟨none, .store 65 (.tmp 4) (.tmp 23), _, _, _, _⟩ :: _) _ _ from stop_here ?_))
      refine Stop.go (wpList_store_blk rfl rfl rfl rfl hR1 (by rw [HSZ.out]; rfl) (by rw [HSZ.out]; kernel_rfl) HONE.out ?_)
      intro w2 hR2 hO2
      have hO3 : Only p w w2 := ⟨hO2.os.trans hO1.os, hO2.tape.trans hO1.tape, hO2.output.trans hO1.output, Nat.le_trans hO1.size hO2.size, fun j hj hn => (hO2.block j (Nat.lt_of_lt_of_le hj hO1.size) (by omega)).trans (hO1.block j hj hn)⟩
      clear hO1 hO2 hR1
      go_wp2
      exact bodyPost_ret (results_cell_row rfl _ _ w.heap.size 65 OUT (0, 0) _ rfl hR2 Try.underlying65 rfl (by rw [HSZ.out]; kernel_rfl)) rfl ⟨by rw [HOUT.out], hO3⟩
end Go.Proofs.Ythpjihiikkhcjaa
