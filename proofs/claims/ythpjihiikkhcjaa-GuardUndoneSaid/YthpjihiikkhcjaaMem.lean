/-
  A part of the proofs of this seat: laws of the walk, or contracts of the functions that the statements reach. No conditions but those that each theorem names.
-/
import Derived.Test.YthpjihiikkhcjaaModel
import Derived.Test.YthpjihiikkhcjaaReg
import Derived.Deep.MidRow
import Derived.Deep.AppendSrc
import Derived.Laws.AppendOwnNone
namespace Go.Sp
open Go.RowKit
/-- Block g holds these cells, to be written. -/
def Blk (w : World) (g : Nat) (cs : Array Value) (t : TypeId) : Prop := w.heap[g]? = some (.cells cs t (0, 0))
theorem Blk.lt {w : World} {g : Nat} {cs : Array Value} {t : TypeId} (h : Blk w g cs t) : g < w.heap.size := (Array.getElem?_eq_some_iff.1 h).1
theorem Blk.cell {w : World} {g : Nat} {cs : Array Value} {t : TypeId} (h : Blk w g cs t) (i : Nat) : w.cell? ⟨g, i, none⟩ = cs[i]? := cell_of_row w g i cs t (0, 0) h
theorem Blk.cellL {w : World} {g : Nat} {cs : Array Value} {t : TypeId} (h : Blk w g cs t) (i : Nat) : w.cell? ⟨g, i, none⟩ = lookL cs.toList i := by rw [h.cell i, lookL_eq]; simp
theorem Blk.frozen {w : World} {g : Nat} {cs : Array Value} {t : TypeId} (h : Blk w g cs t) (i : Nat) : w.frozen? ⟨g, i, none⟩ = false := frozen_of_row w g i cs t h
theorem Blk.ext {w w' : World} {g : Nat} {cs : Array Value} {t : TypeId} (h : Blk w g cs t) (e : Below w.heap.size w w') : Blk w' g cs t := (e.block g h.lt).trans h
theorem Blk.below {n : Nat} {w w' : World} {g : Nat} {cs : Array Value} {t : TypeId} (h : Blk w g cs t) (e : Below n w w') (hg : g < n) : Blk w' g cs t := (e.block g hg).trans h
theorem Blk.drew {w : World} {g : Nat} {cs : Array Value} {t : TypeId} (h : Blk w g cs t) : Blk w.drew g cs t := h
theorem Blk.alloc {w : World} {g : Nat} {cs : Array Value} {t : TypeId} (h : Blk w g cs t) (o : Obj) : Blk (w.alloc o) g cs t := (Below.heap_alloc w o g h.lt).trans h
theorem Blk.new (w : World) (cs : Array Value) (t : TypeId) : Blk (w.alloc (.cells cs t)) w.heap.size cs t := heap_alloc_new w _
theorem Blk.set {w : World} {g : Nat} {cs : Array Value} {t : TypeId} (h : Blk w g cs t) (i : Nat) (v : Value) : Blk (w.setCell ⟨g, i, none⟩ v) g (cs.setIfInBounds i v) t := heap_setCell_same w g i cs t v h
theorem Blk.setOther {w : World} {g : Nat} {cs : Array Value} {t : TypeId} (h : Blk w g cs t) (a : Addr) (v : Value) (hne : g ≠ a.block) : Blk (w.setCell a v) g cs t := (heap_setCell_other w a g v hne).trans h
/-- Of the world nothing has turned but block p (and it has grown). -/
structure Only (p : Nat) (w w' : World) : Prop where
  os : w'.os = w.os
  tape : w'.tape = w.tape
  output : w'.output = w.output
  size : w.heap.size ≤ w'.heap.size
  block : ∀ k, k < w.heap.size → k ≠ p → w'.heap[k]? = w.heap[k]?
theorem Only.refl (p : Nat) (w : World) : Only p w w := ⟨rfl, rfl, rfl, Nat.le_refl _, fun _ _ _ => rfl⟩
theorem Only.trans {p : Nat} {a b c : World} (h : Only p a b) (k : Only p b c) : Only p a c :=
  ⟨k.os.trans h.os, k.tape.trans h.tape, k.output.trans h.output, Nat.le_trans h.size k.size, fun i hi hn => (k.block i (Nat.lt_of_lt_of_le hi h.size) hn).trans (h.block i hi hn)⟩
theorem Only.ofBelow {p n : Nat} {a b : World} (h : Below n a b) (hn : a.heap.size ≤ n) : Only p a b := ⟨h.os, h.tape, h.output, h.size, fun k hk _ => h.block k (Nat.lt_of_lt_of_le hk hn)⟩
theorem Only.drew {p : Nat} {a w : World} (h : Only p a w) : Only p a w.drew := ⟨h.os, h.tape, h.output, h.size, h.block⟩
theorem Only.alloc {p : Nat} {a w : World} (h : Only p a w) (o : Obj) : Only p a (w.alloc o) :=
  h.trans ⟨rfl, rfl, rfl, by simp, fun k hk _ => Below.heap_alloc _ _ _ hk⟩
theorem Only.set {p : Nat} {a w : World} (h : Only p a w) {x : Addr} (hx : x.block = p ∨ a.heap.size ≤ x.block) (v : Value) : Only p a (w.setCell x v) :=
  ⟨h.os, h.tape, h.output, by simpa [World.setCell] using h.size, fun k hk hn => by
    rw [Below.heap_setCell _ _ _ _ (by rcases hx with hx | hx <;> omega)]; exact h.block k hk hn⟩
/-- A change of blocks from n on alone. -/
theorem Only.below {p n : Nat} {a w : World} (h : Only p a w) (hp : n ≤ p) (hn : n ≤ a.heap.size) : Below n a w := ⟨h.os, h.tape, h.output, h.size, fun k hk => h.block k (by omega) (by omega)⟩
theorem Blk.only {p : Nat} {w w' : World} {g : Nat} {cs : Array Value} {t : TypeId} (h : Blk w g cs t) (e : Only p w w') (hg : g ≠ p) : Blk w' g cs t := (e.block g h.lt hg).trans h
/-- Cells, set one by one. -/
def putL (cs : Array Value) : Nat → List Value → Array Value
  | _, [] => cs
  | o, v :: r => putL (cs.setIfInBounds o v) (o + 1) r
theorem Blk.setCells {g : Nat} {t : TypeId} : ∀ (vs : List Value) (o : Nat) {w : World} {cs : Array Value}, Blk w g cs t → Blk (w.setCells g o vs) g (putL cs o vs) t
  | [], _, _, _, h => h
  | v :: r, o, _, _, h => Blk.setCells r (o + 1) (h.set o v)
theorem Only.setCells {p : Nat} {a : World} {g : Nat} : ∀ (vs : List Value) (o : Nat) {w : World}, Only p a w → g = p ∨ a.heap.size ≤ g → Only p a (w.setCells g o vs)
  | [], _, _, h, _ => h
  | v :: r, o, _, h, hg => Only.setCells r (o + 1) (h.set (x := ⟨g, o, none⟩) hg v) hg
theorem Below.setCells {n : Nat} {a : World} {g : Nat} : ∀ (vs : List Value) (o : Nat) {w : World}, Below n a w → n ≤ g → Below n a (w.setCells g o vs)
  | [], _, _, h, _ => h
  | v :: r, o, _, h, hg => Below.setCells r (o + 1) (Below.setCell h (p := ⟨g, o, none⟩) hg v) hg
theorem Blk.setCellsOther {g p : Nat} {t : TypeId} {cs : Array Value} : ∀ (vs : List Value) (o : Nat) {w : World}, Blk w g cs t → g ≠ p → Blk (w.setCells p o vs) g cs t
  | [], _, _, h, _ => h
  | v :: r, o, _, h, hn => Blk.setCellsOther r (o + 1) (h.setOther ⟨p, o, none⟩ v hn) hn
/-- A slice value that reads as these bytes. -/
def Byt (w : World) (v : Value) (l : List UInt8) : Prop :=
  (v = .slice none 0 0 ∧ l = []) ∨
  ∃ g off cap, v = .slice (some ⟨g, off, none⟩) l.length cap ∧ l.length ≤ cap ∧ cap ≤ maxLen ∧ g < w.heap.size ∧ ∀ (i : Nat) (b : UInt8), l[i]? = some b → w.cell? ⟨g, off + i, none⟩ = some (B b)
theorem Byt.nil (w : World) : Byt w (.slice none 0 0) [] := .inl ⟨rfl, rfl⟩
theorem Byt.keep {w w' : World} {v : Value} {l : List UInt8} (h : Byt w v l) (hs : w.heap.size ≤ w'.heap.size) (hb : ∀ k, v.ownBlock = some k → w'.heap[k]? = w.heap[k]?) : Byt w' v l := by
  rcases h with h | ⟨g, off, cap, rfl, h1, h2, h3, h4⟩
  · exact .inl h
  · refine .inr ⟨g, off, cap, rfl, h1, h2, by omega, fun i b hi => ?_⟩
    rw [← h4 i b hi]
    exact World.cell?_of_block (hb g rfl)
theorem Byt.ext {w w' : World} {v : Value} {l : List UInt8} (h : Byt w v l) (e : Below w.heap.size w w') : Byt w' v l :=
  h.keep e.size fun k hk => e.block k (by
    rcases h with ⟨rfl, _⟩ | ⟨g, off, cap, rfl, _, _, h3, _⟩ <;> simp [Value.ownBlock] at hk
    subst hk; exact h3)
theorem Byt.only {p : Nat} {w w' : World} {v : Value} {l : List UInt8} (h : Byt w v l) (e : Only p w w') (hp : v.ownBlock ≠ some p) : Byt w' v l :=
  h.keep e.size fun k hk => e.block k (by
    rcases h with ⟨rfl, _⟩ | ⟨g, off, cap, rfl, _, _, h3, _⟩ <;> simp [Value.ownBlock] at hk
    subst hk; exact h3) (fun e => hp (by rw [hk, e]))
theorem Byt.drew {w : World} {v : Value} {l : List UInt8} (h : Byt w v l) : Byt w.drew v l := h
theorem Byt.len {w : World} {v : Value} {l : List UInt8} (h : Byt w v l) : ∃ a cap, v = .slice a l.length cap ∧ l.length ≤ cap ∧ cap ≤ maxLen := by
  rcases h with ⟨rfl, rfl⟩ | ⟨g, off, cap, rfl, h1, h2, _⟩
  · exact ⟨none, 0, rfl, Nat.le_refl _, by unfold maxLen; omega⟩
  · exact ⟨_, cap, rfl, h1, h2⟩
theorem Byt.own {w : World} {n : Nat} {t : TypeId} {v : Value} {m : Nat} {l : List UInt8} (h : w.ownsRow n t 1 v m (l.map B)) : Byt w v l ∧ m = l.length := by
  have hm : m = l.length := by have := h.1; simpa using this.symm
  refine ⟨?_, hm⟩
  subst hm
  rcases h.2 with ⟨rfl, h0⟩ | ⟨g, cap, cur, rfl, hb, hg, hc, hcm, hcs, ht⟩
  · exact by exact .inl ⟨rfl, List.eq_nil_of_length_eq_zero h0⟩
  · refine .inr ⟨g, 0, cap, rfl, hc, hcm, (Array.getElem?_eq_some_iff.1 hg).1, fun i b hi => ?_⟩
    rw [cell_of_row w g (0 + i) cur t (0, 0) hg, Nat.zero_add]
    have h1 : (l.map B)[i]? = some (B b) := by simp [hi]
    rw [← ht, List.getElem?_take] at h1
    split at h1
    · simpa using h1
    · cases h1
theorem Byt.src {P : Program} {tx e : TypeId} {w : World} {v : Value} {l : List UInt8} (hk : P.underlying tx = some (.slice e)) (h : Byt w v l) : Src P 1 tx v l.length (l.map B) w := by
  rcases h with ⟨rfl, rfl⟩ | ⟨g, off, cap, rfl, _, _, _, h4⟩
  · exact Src.ofNil w hk 0
  · refine Src.ofSlice w hk ⟨g, off, none⟩ l.length cap (l.map B) (by simp) (fun j u hu => ?_) (fun u hu => by obtain ⟨b, _, rfl⟩ := List.mem_map.1 hu; rfl)
    rw [Addr.add_mid]
    simp at hu
    obtain ⟨b, hb, rfl⟩ := hu
    exact h4 j b hb
end Go.Sp
namespace Go.Sp
open Go.RowKit
theorem Blk.newAt {w : World} {n : Nat} (hn : n = w.heap.size) (cs : Array Value) (t : TypeId) : Blk (w.alloc (.cells cs t)) n cs t := hn ▸ Blk.new w cs t
theorem Byt.ofBlk {w : World} {g : Nat} {l : List UInt8} {t : TypeId} (h : Blk w g (l.map B).toArray t) (hl : l.length ≤ maxLen) : Byt w (.slice (some ⟨g, 0, none⟩) l.length l.length) l :=
  .inr ⟨g, 0, l.length, rfl, Nat.le_refl _, hl, h.lt, fun i b hi => by rw [h.cell, Nat.zero_add]; simp [hi]⟩
end Go.Sp
namespace Go.Sp
open Go.RowKit
theorem Blk.there8 {w : World} {g : Nat} {s : S8} {v : Value} {t : TypeId} (h : Blk w g (s.cells v) t) : w.there g 0 8 := fun j hj => by
  refine ⟨?_, h.frozen _⟩
  rw [h.cell]
  have : 0 + j < 9 := by omega
  simp [S8.cells]; omega
end Go.Sp
namespace Go.Sp
open Go.RowKit
theorem putL_get : ∀ (vs : List Value) (o : Nat) (cs : Array Value) (i : Nat), (putL cs o vs)[i]? = if o ≤ i ∧ i < o + vs.length ∧ i < cs.size then vs[i - o]? else cs[i]?
  | [], o, cs, i => by simp [putL]; omega
  | v :: r, o, cs, i => by
    rw [putL, putL_get r (o + 1), Array.getElem?_setIfInBounds]
    simp only [Array.size_setIfInBounds, List.length_cons]
    by_cases h1 : o = i
    · subst h1
      rw [if_neg (by omega), if_pos rfl]
      by_cases h2 : o < cs.size
      · rw [if_pos h2, if_pos (by omega)]; simp
      · rw [if_neg h2, if_neg (by omega), Array.getElem?_eq_none (by omega)]
    · by_cases h2 : o + 1 ≤ i ∧ i < o + 1 + r.length ∧ i < cs.size
      · rw [if_pos h2, if_pos (by omega), show i - o = (i - (o + 1)) + 1 by omega]; simp
      · rw [if_neg h2, if_neg h1, if_neg (by omega)]
theorem putL_all (cs : Array Value) (vs : List Value) (h : cs.size = vs.length) : putL cs 0 vs = vs.toArray := by
  apply Array.ext_getElem?
  intro i
  rw [putL_get]
  by_cases hi : i < vs.length
  · rw [if_pos (by omega)]; simp
  · rw [if_neg (by omega), Array.getElem?_eq_none (by omega), Array.getElem?_eq_none (by simp; omega)]
end Go.Sp
