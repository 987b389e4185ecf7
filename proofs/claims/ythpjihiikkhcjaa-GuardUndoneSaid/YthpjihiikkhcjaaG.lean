/-
  A part of the proofs of this seat: laws of the walk, or contracts of the functions that the statements reach. No conditions but those that each theorem names.
-/
import Derived.Test.YthpjihiikkhcjaaF
namespace Go.Proofs.Ythpjihiikkhcjaa
open Go.RowKit Go.Sp
theorem Byt.drop16 {w : World} {g off cap : Nat} {l : List UInt8} (hl : 16 ≤ l.length) (hcap : l.length ≤ cap) (hm : cap ≤ maxLen) (hg : g < w.heap.size) (h : ∀ (i : Nat) (b : UInt8), l[i]? = some b → w.cell? ⟨g, off + i, none⟩ = some (B b)) (o : Nat) (ho : o = off + 16 ∨ l.length = 16) :
    Byt w (.slice (some ⟨g, o, none⟩) (l.length - 16) (cap - 16)) (l.drop 16) := by
  refine .inr ⟨g, o, cap - 16, by simp, by simp; omega, by omega, hg, fun i b hi => ?_⟩
  rw [List.getElem?_drop] at hi
  have hlt := (List.getElem?_eq_some_iff.1 hi).1
  rcases ho with rfl | ho
  · rw [Nat.add_assoc]; exact h _ _ hi
  · omega
set_option maxRecDepth 100000 in
set_option maxHeartbeats 2000000 in
theorem write_any (p : Nat) (s : S8) (wv bv : Value) (l bs : List UInt8) (w : World) (hp : Blk w p (s.cells wv) 86) (hw : Byt w wv l) (hb : Byt w bv bs)
    (hl : l.length + bs.length ≤ 1099511627776) :
    Calls Try.prog 58 #[.pointer (some ⟨p, 0, none⟩), bv] w fun e w' => e = .returned (.tuple #[]) ∧ Only p w w' ∧ ∃ wv', Blk w' p ((absAll s (l ++ bs)).1.cells wv') 86 ∧ Byt w' wv' (absAll s (l ++ bs)).2 ∧ wv'.ownBlock ≠ some p ∧ (∀ k, wv'.ownBlock = some k → w.heap.size ≤ k) := by
  have hbc := hp.cell
  have hbf := hp.frozen
  have hpl := hp.lt
  simp only [S8.cells] at hbc
  go_enter Try.func58, Try.ntmps58
  go_wp2_with fail
  refine (clone_any wv l w (by omega) hw).mono ?_
  rintro e w1 ⟨v1, rfl, ho1, hb1⟩
  have hs1 := hb1.size
  go_wp2_with (at_builtin; refine stop_here ?_)
  refine Stop.go (wpList_append_byt rfl rfl byt29 ho1 (hb.ext hb1) rfl rfl (by omega) hs1 ?_)
  intro v2 w2 ho2 hg2 _
  have hb2 : Below w.heap.size w w2 := hb1.trans (toBelow hg2 hs1 (fun k hk => (ho1.lt k hk).1))
  have hp2 := hp.ext hb2
  clear hbc hbf ho1 hb1 hg2 hs1
  have hbc := hp2.cell
  have hbf := hp2.frozen
  simp only [S8.cells] at hbc
  have hlt2 := ho2.lt
  have HLT := Lib.hid hlt2
  clear hlt2
  obtain ⟨a2, c2, rfl, hc2, _⟩ := ho2.byt.len
  go_wp2
  have hlp : ∀ k, (Value.slice a2 (l.length + bs.length) c2).ownBlock = some k → w.heap.size ≤ k := fun k hk => (HLT.out k (by simpa using hk)).1
  have hne : (Value.slice a2 (l.length + bs.length) c2).ownBlock ≠ some p := fun h => by have := hlp p h; omega
  have hB3 : Blk (w2.setCell ⟨p, 8, none⟩ (.slice a2 (l.length + bs.length) c2)) p (s.cells (.slice a2 (l.length + bs.length) c2)) 86 := hp2.set 8 _
  have hO3 : Only p w2 (w2.setCell ⟨p, 8, none⟩ (.slice a2 (l.length + bs.length) c2)) := (Only.refl p w2).set (.inl rfl) _
  have hY3 : Byt (w2.setCell ⟨p, 8, none⟩ (.slice a2 (l.length + bs.length) c2)) (.slice a2 (l.length + bs.length) c2) (l ++ bs) := by
    have := ho2.byt.only hO3 (by simpa using hne)
    simpa using this
  have hO4 : Only p w (w2.setCell ⟨p, 8, none⟩ (.slice a2 (l.length + bs.length) c2)) := (Only.ofBelow hb2 (Nat.le_refl _)).trans hO3
  clear hbc hbf ho2 hp2 hb2 HLT hO3 hne hp
  go_loopw [17] (fun _ wr => ∃ s' l' wv', Blk wr p (S8.cells s' wv') 86 ∧ Byt wr wv' l' ∧ absAll s' l' = absAll s (l ++ bs) ∧ (∀ k, wv'.ownBlock = some k → w.heap.size ≤ k) ∧ Only p w wr) (fun _ wr => match wr.cell? ⟨p, 8, none⟩ with | some (.slice _ n _) => n | _ => 0)
  case atStart => exact ⟨s, l ++ bs, _, hB3, hY3, rfl, hlp, hO4⟩
  case round =>
    obtain ⟨s', l', wv', hB, hY, hA, hF, hO⟩ := hrel
    clear hB3 hY3 hlp hO4 hw hb
    have HA := Lib.hid hA
    clear hA
    have hne : wv'.ownBlock ≠ some p := fun h => by have := hF p h; omega
    have hbc := hB.cell
    have hbf := hB.frozen
    simp only [S8.cells] at hbc
    by_cases h16 : l'.length < 16
    · obtain ⟨a', c', rfl, hc', hm'⟩ := hY.len
      have h16' : ¬ ((16 : Int) ≤ l'.length) := by omega
      have HF := Lib.hid hF
      clear hF
      go_wp2
      go_end0
      rw [← HA.out, absAll_lt h16]
      exact ⟨rfl, hO, _, hB, hY, hne, HF.out⟩
    · rcases hY with ⟨rfl, rfl⟩ | ⟨g, off, cap, rfl, h1, h2, h3, h4⟩
      · simp at h16
      have h16' : (16 : Int) ≤ l'.length := by omega
      have hg : g ≠ p := by simpa [Value.ownBlock] using hne
      have hgw : w.heap.size ≤ g := hF g rfl
      have hcap : (16 : Int) ≤ cap := by omega
      have h16n : 16 ≤ l'.length := by omega
      have hcapn : 16 ≤ cap := by omega
      have H4 := Lib.hid h4
      clear h4 hne hF
      go_wp2_with fail
      refine (take_any p s' _ g off cap (l'.take 16) wr hB hg h3 (by simp; omega) (fun i b hi => H4.out i b (by rw [List.getElem?_take] at hi; split at hi <;> first | exact hi | cases hi))).mono ?_
      rintro e w1 ⟨rfl, hO1, hB1⟩
      have hlt1 : g < w1.heap.size := Nat.lt_of_lt_of_le h3 hO1.size
      have h4' : ∀ (i : Nat) (b : UInt8), l'[i]? = some b → w1.cell? ⟨g, off + i, none⟩ = some (B b) := fun i b hi => (World.cell?_of_block (a := ⟨g, off + i, none⟩) (hO1.block g h3 hg)).trans (H4.out i b hi)
      have hc8 : wr.cell? ⟨p, 8, none⟩ = some (.slice (some ⟨g, off, none⟩) l'.length cap) := hB.cell 8
      have HC8 := Lib.hid hc8
      clear hc8
      have HB1 := Lib.hid hB1
      have HO1 := Lib.hid (hO.trans hO1)
      have H4' := Lib.hid h4'
      have hbc1 := hB1.cell
      have hbf1 := hB1.frozen
      simp only [S8.cells] at hbc1
      have hA' : absAll (absorb s' (l'.take 16)) (l'.drop 16) = absAll s (l ++ bs) := by rw [← HA.out, ← absAll_ge h16]
      have HA' := Lib.hid hA'
      clear hbc hbf hB hO hO1 h4' hB1 hA' HA H4
      have hge : ¬ (l'.length < 16) := h16
      clear h16
      by_cases hc16 : cap = 16
      · subst hc16
        have hl16 : l'.length = 16 := by omega
        have HL16 := Lib.hid hl16
        clear hl16
        go_wp2
        go_roundw
        case rel =>
          refine ⟨absorb s' (l'.take 16), l'.drop 16, _, HB1.out.set 8 _, ?_, HA'.out, fun k hk => by simp [Value.ownBlock] at hk; omega, HO1.out.set (.inl rfl) _⟩
          have h5 := (Byt.drop16 h16n h1 h2 hlt1 H4'.out off (.inr HL16.out)).only ((Only.refl p w1).set (x := ⟨p, 8, none⟩) (.inl rfl) (.slice (some ⟨g, off, none⟩) 0 0)) (by simpa [Value.ownBlock] using hg)
          simpa [HL16.out] using h5
        case measure =>
          rw [(HB1.out.set 8 _).cell, HC8.out]
          simp [S8.cells]; omega
      · go_wp2
        go_roundw
        case rel =>
          refine ⟨absorb s' (l'.take 16), l'.drop 16, _, HB1.out.set 8 _, ?_, HA'.out, fun k hk => by simp [Value.ownBlock] at hk; omega, HO1.out.set (.inl rfl) _⟩
          have h5 := (Byt.drop16 h16n h1 h2 hlt1 H4'.out (off + 16) (.inl rfl)).only ((Only.refl p w1).set (x := ⟨p, 8, none⟩) (.inl rfl) (.slice (some ⟨g, off + 16, none⟩) (l'.length - 16) (cap - 16))) (by simpa [Value.ownBlock] using hg)
          simpa using h5
        case measure =>
          rw [(HB1.out.set 8 _).cell, HC8.out]
          simp [S8.cells]; omega
end Go.Proofs.Ythpjihiikkhcjaa
