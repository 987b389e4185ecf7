/-
  A part of the proofs of this seat: laws of the walk, or contracts of the functions that the statements reach. No conditions but those that each theorem names.
-/
import Derived.Maps.AppendAt
import Derived.Laws.OwnMore
import Derived.Test.YthpjihiikkhcjaaGj
namespace Go.Sp
open Go.RowKit
/-- The world grows; a row that has room behind L cells may get a nought there. -/
structure RW (n L : Nat) (u u' : World) : Prop where
  below : Below n u u'
  keep : ∀ (g : Nat) (cs : Array Value) (t : TypeId) (fr : Nat × Nat), u.heap[g]? = some (.cells cs t fr) → ∃ cs', u'.heap[g]? = some (.cells cs' t fr) ∧ (cs' = cs ∨ (L < cs.size ∧ cs'.size = cs.size ∧ (∀ i, i < L → cs'[i]? = cs[i]?) ∧ cs'[L]? = some (B 0)))
theorem RW.refl {n L : Nat} (u : World) : RW n L u u := ⟨Below.refl _ _, fun _ cs _ _ h => ⟨cs, h, .inl rfl⟩⟩
theorem RW.trans {n L : Nat} {a b c : World} (h : RW n L a b) (k : RW n L b c) : RW n L a c := ⟨h.below.trans k.below, fun g cs t fr hg => by
  obtain ⟨c1, h1, e1⟩ := h.keep g cs t fr hg
  obtain ⟨c2, h2, e2⟩ := k.keep g c1 t fr h1
  refine ⟨c2, h2, ?_⟩
  rcases e2 with rfl | ⟨l2, s2, p2, z2⟩
  · exact e1
  · rcases e1 with rfl | ⟨l1, s1, p1, _⟩
    · exact .inr ⟨l2, s2, p2, z2⟩
    · exact .inr ⟨l1, by rw [s2, s1], fun i hi => (p2 i hi).trans (p1 i hi), z2⟩⟩
theorem RW.drew {n L : Nat} (w : World) : RW n L w w.drew := ⟨(Below.refl _ _).drew, fun _ cs _ _ h => ⟨cs, h, .inl rfl⟩⟩
theorem RW.of {n L : Nat} {u u' : World} (h : Below u.heap.size u u') (hn : n ≤ u.heap.size) : RW n L u u' := ⟨h.mono hn, fun g cs _ _ hg => ⟨cs, (h.block g (Array.getElem?_eq_some_iff.1 hg).1).trans hg, .inl rfl⟩⟩
/-- A short row stays. -/
theorem RW.short {n L : Nat} {u u' : World} (h : RW n L u u') {g : Nat} {cs : Array Value} {t : TypeId} (hB : Blk u g cs t) (hs : cs.size ≤ L) : Blk u' g cs t := by
  obtain ⟨c, h1, rfl | ⟨h2, _⟩⟩ := h.keep g cs t (0, 0) hB
  · exact h1
  · omega
theorem RW.own {n L base : Nat} {u u' : World} (h : RW n L u u') {v : Value} {l : List UInt8} (ho : Own 5 base u v l) (hl : l.length ≤ L) : Own 5 base u' v l := by
  refine ⟨ho.1, ?_⟩
  rcases ho.2 with h0 | ⟨g, cap, cur, rfl, hb, hg, hc, hcm, hcs, ht⟩
  · exact .inl h0
  · obtain ⟨c, h1, h2⟩ := h.keep g cur 5 (0, 0) hg
    rcases h2 with rfl | ⟨h3, h4, h5, _⟩
    · exact .inr ⟨g, cap, c, rfl, hb, h1, hc, hcm, hcs, ht⟩
    · refine .inr ⟨g, cap, c, rfl, hb, h1, hc, hcm, by rw [h4]; exact hcs, ?_⟩
      rw [← ht]
      apply List.ext_getElem?
      intro i
      rw [List.getElem?_take, List.getElem?_take]
      split
      · simpa using h5 i (by omega)
      · rfl
/-- These bytes, and a nought behind them. -/
def Ends (u : World) (v : Value) (l : List UInt8) : Prop := ∃ g cap cs, v = .slice (some ⟨g, 0, none⟩) (l.length + 1) cap ∧ l.length + 1 ≤ cap ∧ cap ≤ maxLen ∧ u.heap[g]? = some (.cells cs 5 (0, 0)) ∧ (∀ (i : Nat) (y : UInt8), l[i]? = some y → cs[i]? = some (B y)) ∧ cs[l.length]? = some (B 0)
theorem Ends.byt {u : World} {v : Value} {l : List UInt8} (h : Ends u v l) : Byt u v (l ++ [0]) := by
  obtain ⟨g, cap, cs, rfl, h1, h2, h3, h4, h5⟩ := h
  refine .inr ⟨g, 0, cap, by simp, by simpa using h1, h2, (Array.getElem?_eq_some_iff.1 h3).1, fun i y hi => ?_⟩
  rw [Nat.zero_add, cell_of_row u g i cs 5 (0, 0) h3]
  rw [List.getElem?_append] at hi
  split at hi
  · exact h4 i y hi
  · rename_i hlt
    rw [List.getElem?_singleton] at hi
    split at hi
    · cases hi
      obtain rfl : i = l.length := by omega
      exact h5
    · cases hi
theorem RW.ends {n L : Nat} {u u' : World} (h : RW n L u u') {v : Value} {l : List UInt8} (he : Ends u v l) (hl : l.length = L) : Ends u' v l := by
  obtain ⟨g, cap, cs, rfl, h1, h2, h3, h4, h5⟩ := he
  obtain ⟨c, k1, k2⟩ := h.keep g cs 5 (0, 0) h3
  rcases k2 with rfl | ⟨k3, k4, k5, k6⟩
  · exact ⟨g, cap, c, rfl, h1, h2, k1, h4, h5⟩
  · refine ⟨g, cap, c, rfl, h1, h2, k1, fun i y hi => ?_, by rw [hl]; exact k6⟩
    have := (List.getElem?_eq_some_iff.1 hi).1
    rw [k5 i (by omega)]
    exact h4 i y hi
section
variable {P : Program}
/-- More than there is room for: the row is a new one. -/
theorem run_app_grow {t e : TypeId} (hT : BytT P t e) (ty : TypeId) (base : Nat) (w : World) {g k cap : Nat} {xs l : List UInt8} {x : Value} (hown : Own e base w (.slice (some ⟨g, 0, none⟩) k cap) xs) (hk : k = xs.length) (hx : Byt w x l)
    (hlen : xs.length + l.length ≤ 70368744177664) (hbase : base ≤ w.heap.size) (hfull : cap < k + l.length) :
    ∃ v' w', (Builtin.append_ #[t, t] ty #[.slice (some ⟨g, 0, none⟩) k cap, x]).run P w = .ok v' w' ∧ Own e base w' v' (xs ++ l) ∧ v'.ownBlock = some w.heap.size ∧ Below w.heap.size w w' := by
  obtain ⟨i, hi, hz, hs, hb⟩ := hT.info
  have hk2 : k ≤ cap := by
    rcases hown.2 with ⟨h0, _⟩ | ⟨g', cap', cur, h0, _, _, hc, _⟩
    · cases h0
    · simp only [Value.slice.injEq] at h0
      omega
  obtain ⟨a, off, c, rfl, h4⟩ : ∃ a off c, x = .slice (some ⟨a, off, none⟩) l.length c ∧ ∀ (i : Nat) (b : UInt8), l[i]? = some b → w.cell? ⟨a, off + i, none⟩ = some (B b) := by
    rcases hx with ⟨_, rfl⟩ | ⟨g, off, cap, rfl, _, _, _, h4⟩
    · simp at hfull; omega
    · exact ⟨g, off, cap, rfl, h4⟩
  have hnews : ∀ j u, (l.map B)[j]? = some u → w.cell? ((⟨a, off, none⟩ : Addr).add j) = some u := fun j u hu => by
    rw [Addr.add_mid]
    simp at hu
    obtain ⟨b, hb, rfl⟩ := hu
    exact h4 j b hb
  have holds : ∀ j u, (xs.map B)[j]? = some u → w.cell? ((⟨g, 0, none⟩ : Addr).add j) = some u := hown.cells (g := g) (by subst hk; rfl)
  subst hk
  have hr := run_append_grow (P := P) w t ty e i (.int .u8 0) hT.sl hi hz ⟨g, 0, none⟩ xs.length cap (xs.map B) (by simp [hs]) holds ⟨a, off, none⟩ l.length c (l.map B) (by simp [hs]) hnews hfull (by omega) (growslice_fits hfull (by rw [hb]; omega))
  obtain ⟨v', w', hr2, h5, h6, h7, h8⟩ := run_append_own_at (P := P) w base t ty e i (.int .u8 0) 1 1 hT.sl hi hz hs hb rfl (by decide) _ xs.length (xs.map B) hown ⟨a, off, none⟩ l.length c (l.map B) (by simp) hnews
    (fun u hu => by obtain ⟨b, _, rfl⟩ := List.mem_map.1 hu; rfl) (by unfold maxLen; omega) (by omega) hbase
  rw [hr] at hr2
  cases hr2
  refine ⟨_, _, hr, ?_, rfl, (Below.refl _ _).drew.alloc (by simp) _⟩
  unfold Own; rw [List.length_append, List.map_append]; exact h5
/-- A nought behind what there is. -/
theorem run_app_nought {t : TypeId} (hT : BytT P t 5) (ty : TypeId) (n : Nat) (w : World) {g cap gx : Nat} {l : List UInt8} (hown : Own 5 n w (.slice (some ⟨g, 0, none⟩) l.length cap) l) (hx : Blk w gx #[B 0] 5) (hlen : l.length ≤ 1000) (hn : n ≤ w.heap.size) (hg : n ≤ g) :
    ∃ v' w', (Builtin.append_ #[t, t] ty #[.slice (some ⟨g, 0, none⟩) l.length cap, .slice (some ⟨gx, 0, none⟩) 1 1]).run P w = .ok v' w' ∧ Ends w' v' l ∧ RW n l.length w w' := by
  have hbx : Byt w (.slice (some ⟨gx, 0, none⟩) 1 1) [0] := Byt.ofBlk (l := [0]) hx (by simp [maxLen])
  by_cases hfit : l.length + 1 ≤ cap
  · obtain ⟨i, hi, hz, hs, hb⟩ := hT.info
    obtain ⟨w', hr, h1, h2⟩ := run_append_fits (P := P) w n t ty 5 i 1 hT.sl hi hs g l.length cap (l.map B) hown ⟨gx, 0, none⟩ 1 1 [B 0] rfl (fun j u hu => by
      cases j with
      | zero => simp at hu; subst hu; rw [Addr.add_mid, hx.cell]; rfl
      | succ j => simp at hu) (by simp [Value.oneCell']) hfit
    rcases hown.2 with ⟨h0, _⟩ | ⟨g', cap', cur, h0, _, hgw, hc, hcm, hcs, ht⟩
    · cases h0
    simp only [Value.slice.injEq, Option.some.injEq, Addr.mk.injEq] at h0
    obtain ⟨⟨rfl, -, -⟩, -, rfl⟩ := h0
    rcases h1.2 with ⟨h0, _⟩ | ⟨g', cap', cur', h0, _, hgw', hc', hcm', hcs', ht'⟩
    · cases h0
    simp only [Value.slice.injEq, Option.some.injEq, Addr.mk.injEq] at h0
    obtain ⟨⟨rfl, -, -⟩, -, rfl⟩ := h0
    have hget : ∀ i, i < l.length + 1 → cur'[i]? = (l.map B ++ [B 0])[i]? := fun i hi => by
      rw [← ht', List.getElem?_take, if_pos (by omega)]; simp
    have hget0 : ∀ i, i < l.length → cur[i]? = (l.map B)[i]? := fun i hi => by
      rw [← ht, List.getElem?_take, if_pos (by omega)]; simp
    refine ⟨_, w', hr, ⟨g, cap, cur', rfl, hfit, hcm, hgw', fun i y hi => ?_, ?_⟩, ⟨h2.os, h2.tape, h2.output, h2.size, fun k hk => h2.block k (by omega) (fun e => by cases e; omega)⟩, fun k cs t' fr hk => ?_⟩
    · have hil := (List.getElem?_eq_some_iff.1 hi).1
      rw [hget i (by omega), List.getElem?_append_left (by simpa using hil)]
      simp [hi]
    · rw [hget _ (by omega), List.getElem?_append_right (by simp)]; simp
    · by_cases e : k = g
      · subst e
        rw [hgw] at hk
        cases hk
        refine ⟨cur', hgw', .inr ⟨by omega, by omega, fun i hi => ?_, ?_⟩⟩
        · rw [hget i (by omega), hget0 i hi, List.getElem?_append_left (by simpa using hi)]
        · rw [hget _ (by omega), List.getElem?_append_right (by simp)]; simp
      · exact ⟨cs, (h2.block k (Array.getElem?_eq_some_iff.1 hk).1 (fun h => e (by cases h; rfl))).trans hk, .inl rfl⟩
  · obtain ⟨v', w', hr, h1, h2, h3⟩ := run_app_grow hT ty n w hown rfl hbx (by simp; omega) hn (by simp; omega)
    refine ⟨v', w', hr, ?_, RW.of h3 hn⟩
    rcases h1.2 with ⟨_, h0⟩ | ⟨g', cap', cur', rfl, _, hgw', hc', hcm', hcs', ht'⟩
    · simp at h0
    rw [List.length_append, List.length_singleton] at hc' ht'
    have hget : ∀ i, i < l.length + 1 → cur'[i]? = ((l ++ [0]).map B)[i]? := fun i hi => by
      rw [← ht', List.getElem?_take, if_pos (by omega)]; simp
    refine ⟨g', cap', cur', by rw [List.length_append, List.length_singleton], hc', hcm', hgw', fun i y hi => ?_, ?_⟩
    · have hil := (List.getElem?_eq_some_iff.1 hi).1
      rw [hget i (by omega), List.getElem?_map, List.getElem?_append_left hil, hi]; rfl
    · rw [hget _ (by omega)]; simp
end
/-- A byte of what the call owns, turned. -/
theorem Own.set {n g cap : Nat} {w : World} {l : List UInt8} (h : Own 5 n w (.slice (some ⟨g, 0, none⟩) l.length cap) l) (i : Nat) (x : UInt8) (hi : i < l.length) :
    Own 5 n (w.setCell ⟨g, i, none⟩ (B x)) (.slice (some ⟨g, 0, none⟩) l.length cap) (l.set i x) := by
  rcases h.2 with ⟨h0, _⟩ | ⟨g', cap', cur, h0, hb, hg, hc, hcm, hcs, ht⟩
  · cases h0
  simp only [Value.slice.injEq, Option.some.injEq, Addr.mk.injEq] at h0
  obtain ⟨⟨rfl, -, -⟩, -, rfl⟩ := h0
  refine ⟨by simp, .inr ⟨g, cap, cur.setIfInBounds i (B x), by simp, hb, ?_, by simpa using hc, hcm, by simpa using hcs, ?_⟩⟩
  · exact (Blk.set (w := w) (g := g) (cs := cur) (t := 5) hg i (B x))
  · rw [List.length_set, Array.toList_setIfInBounds, Nat.mul_one, List.take_set, List.map_set]
    rw [Nat.mul_one] at ht
    rw [ht]
theorem Own.cellAt {n g cap : Nat} {w : World} {l : List UInt8} (h : Own 5 n w (.slice (some ⟨g, 0, none⟩) l.length cap) l) (i : Nat) (y : UInt8) (hi : l[i]? = some y) : w.cell? ⟨g, i, none⟩ = some (B y) ∧ w.frozen? ⟨g, i, none⟩ = false := by
  rcases h.2 with ⟨h0, _⟩ | ⟨g', cap', cur, h0, hb, hg, hc, hcm, hcs, ht⟩
  · cases h0
  simp only [Value.slice.injEq, Option.some.injEq, Addr.mk.injEq] at h0
  obtain ⟨⟨rfl, -, -⟩, -, rfl⟩ := h0
  have hB : Blk w g cur 5 := hg
  refine ⟨?_, hB.frozen i⟩
  have hil := (List.getElem?_eq_some_iff.1 hi).1
  have h1 : (l.map B)[i]? = some (B y) := by simp [hi]
  rw [← ht, List.getElem?_take, if_pos (by omega)] at h1
  rw [hB.cell]; simpa using h1
end Go.Sp
namespace Go.Proofs.Ythpjihiikkhcjaa
open Go.RowKit Go.Sp
theorem r_build0 {ρ : Operand → Value} {d ty pos aft g} (u : World) : (execOp ρ ⟨d, .buildSlice 23 0 #[], ty, pos, aft, g⟩).run Try.prog u = .ok (.value (.slice (some ⟨u.heap.size, 0, none⟩) 0 0)) (u.alloc (.cells #[] 5)) := by
  simp only [execOp]
  go_simp
theorem r_build42_5 {ρ : Operand → Value} {d ty pos aft g} {p0 p1 p2 p3 p4 : Operand} {w : World} {a0 a1 a2 a3 a4 : Option Addr} {l0 l1 l2 l3 l4 c0 c1 c2 c3 c4 : Nat} (h0 : ρ p0 = .slice a0 l0 c0) (h1 : ρ p1 = .slice a1 l1 c1) (h2 : ρ p2 = .slice a2 l2 c2) (h3 : ρ p3 = .slice a3 l3 c3) (h4 : ρ p4 = .slice a4 l4 c4) :
    (execOp ρ ⟨d, .buildSlice 42 5 #[(0, p0), (1, p1), (2, p2), (3, p3), (4, p4)], ty, pos, aft, g⟩).run Try.prog w = .ok (.value (.slice (some ⟨w.heap.size, 0, none⟩) 5 5)) (w.alloc (.cells #[.slice a0 l0 c0, .slice a1 l1 c1, .slice a2 l2 c2, .slice a3 l3 c3, .slice a4 l4 c4] 23)) := by
  simp only [execOp]
  go_simp
end Go.Proofs.Ythpjihiikkhcjaa
