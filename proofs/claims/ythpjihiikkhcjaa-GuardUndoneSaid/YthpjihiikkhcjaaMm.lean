/-
  A part of the proofs of this seat: laws of the walk, or contracts of the functions that the statements reach. No conditions but those that each theorem names.
-/
import Derived.Test.YthpjihiikkhcjaaRegT
import Derived.Test.YthpjihiikkhcjaaEq
import Derived.Test.YthpjihiikkhcjaaOps
import Derived.Test.YthpjihiikkhcjaaCt
import Derived.Test.YthpjihiikkhcjaaArgs
import Derived.Test.YthpjihiikkhcjaaU
import Derived.Test.YthpjihiikkhcjaaN
import Derived.Lib.SlBytesConst
namespace Go.Sp
open Go.RowKit
theorem freeze_ext {bt : TypeId} (n : Nat) (u : World) (p : Addr) (k : Nat) (hn : n ≤ p.block) (hb : ∃ cs fr, u.heap[p.block]? = some (.cells cs bt fr)) : ExtM bt n u (u.freeze p k) := by
  obtain ⟨cs0, fr0, hb⟩ := hb
  unfold World.freeze
  split
  · exact ExtM.refl _ _ _
  · refine ⟨⟨rfl, rfl, rfl, by simp, fun j hj => ?_⟩, fun g cs t fr hg => ?_⟩
    · simp only [Array.getElem?_modify]
      rw [if_neg (by omega)]
    · simp only [Array.getElem?_modify]
      by_cases e : p.block = g
      · subst e
        rw [if_pos rfl, hg]
        rw [hb] at hg
        cases hg
        exact ⟨_, rfl, fun h => absurd rfl h⟩
      · rw [if_neg e]; exact ⟨fr, hg, fun _ => rfl⟩
theorem Byt.ofCells {w : World} {g : Nat} {l : List UInt8} {t : TypeId} {fr : Nat × Nat} (h : w.heap[g]? = some (.cells (l.map B).toArray t fr)) (hl : l.length ≤ maxLen) : Byt w (.slice (some ⟨g, 0, none⟩) l.length l.length) l :=
  .inr ⟨g, 0, l.length, rfl, Nat.le_refl _, hl, (Array.getElem?_eq_some_iff.1 h).1, fun i b hi => by simp [World.cell?, h, hi]⟩
theorem Byt.extM {bt : TypeId} {n : Nat} {w w' : World} {v : Value} {l : List UInt8} (h : Byt w v l) (e : ExtM bt n w w') : Byt w' v l := by
  rcases h with h | ⟨g, off, cap, rfl, h1, h2, h3, h4⟩
  · exact .inl h
  · exact .inr ⟨g, off, cap, rfl, h1, h2, Nat.lt_of_lt_of_le h3 e.below.size, fun i b hi => e.cell (h4 i b hi)⟩
theorem Blk.extM {bt : TypeId} {n : Nat} {w w' : World} {g : Nat} {cs : Array Value} {t : TypeId} (h : Blk w g cs t) (ht : t ≠ bt) (e : ExtM bt n w w') : Blk w' g cs t := by
  obtain ⟨fr, h', hf⟩ := e.keep g cs t (0, 0) h
  rw [hf ht] at h'
  exact h'
theorem r_pickT {P : Program} {w : World} {ρ : Operand → Value} {d : Option Tmp} {ty : TypeId} {pos : String} {aft : Array Edge} {g : Option (Nat × Bool)} {x y z : Operand} {v : Value} (hx : ρ x = .bool true) (hy : ρ y = v) : (execOp ρ ⟨d, .pick x y z, ty, pos, aft, g⟩).run P w = .ok (.value v) w :=
  r_pick hx (by rw [if_pos rfl, hy])
theorem strOfNums_bytes (l : List UInt8) : strOfNums (l.map Ub) = ⟨l.toArray⟩ := by
  unfold strOfNums
  congr 2
  rw [List.map_map]
  conv => rhs; rw [← List.map_id l]
  apply List.map_congr_left
  intro x _
  simp [Ub]
theorem Byt.str {P : Program} {w : World} {v : Value} {l : List UInt8} {src e dst : TypeId} (h : Byt w v l) (hs : P.underlying src = some (.slice e)) (he : P.underlying e = some (.int .u8)) (hd : P.underlying dst = some .string) :
    (convert src dst v).run P w = .ok (.string ⟨l.toArray⟩) w := by
  rcases h with ⟨rfl, rfl⟩ | ⟨g, off, cap, rfl, _, _, _, h4⟩
  · rw [run_convert_bytes_nil w src e hs he 0 0 dst hd]; rfl
  · rw [run_convert_bytes_arg w src e hs he g off l.length cap (l.map Ub) (by simp) (fun i hi => ?_) dst hd, strOfNums_bytes]
    rw [h4 i l[i] (by simp [hi])]
    simp [List.getD_eq_getElem?_getD, hi]
theorem r_min {P : Program} {w : World} {ρ : Operand → Value} {d : Option Tmp} {ty : TypeId} {ts : Array TypeId} {pos : String} {aft : Array Edge} {g : Option (Nat × Bool)} {x y : Operand} {a b c : Int} (hx : ρ x = .int .i64 a) (hy : ρ y = .int .i64 b) (hc : min a b = c) :
    (execOp ρ ⟨d, .call { callee := .builtin .min, args := #[x, y], argTypes := ts }, ty, pos, aft, g⟩).run P w = .ok (.value (.int .i64 c)) w := by
  subst hc
  by_cases h : b < a
  · simp [execOp, hx, hy, resolve, invoke, builtin, Builtin.min_, Builtin.min2, h]; omega
  · simp [execOp, hx, hy, resolve, invoke, builtin, Builtin.min_, Builtin.min2, h]; omega
theorem r_max {P : Program} {w : World} {ρ : Operand → Value} {d : Option Tmp} {ty : TypeId} {ts : Array TypeId} {pos : String} {aft : Array Edge} {g : Option (Nat × Bool)} {x y : Operand} {a b c : Int} (hx : ρ x = .int .i64 a) (hy : ρ y = .int .i64 b) (hc : max a b = c) :
    (execOp ρ ⟨d, .call { callee := .builtin .max, args := #[x, y], argTypes := ts }, ty, pos, aft, g⟩).run P w = .ok (.value (.int .i64 c)) w := by
  subst hc
  by_cases h : a < b
  · simp [execOp, hx, hy, resolve, invoke, builtin, Builtin.max_, Builtin.max2, h]; omega
  · simp [execOp, hx, hy, resolve, invoke, builtin, Builtin.max_, Builtin.max2, h]; omega
theorem r_eqlS {ρ : Operand → Value} {d : Option Tmp} {t t' ty : TypeId} {pos : String} {aft : Array Edge} {g : Option (Nat × Bool)} {x y : Operand} {P : Program} {w : World} {s : ByteArray} (hx : ρ x = .string s) (hy : ρ y = .string s) : (execOp ρ ⟨d, .binOp .eql t x y t', ty, pos, aft, g⟩).run P w = .ok (.value (.bool true)) w :=
  r_bin hx hy rfl (by simp [binOp, Op.stringOp])
theorem r_conv {ρ : Operand → Value} {d : Option Tmp} {t t' ty : TypeId} {pos : String} {aft : Array Edge} {g : Option (Nat × Bool)} {x : Operand} {P : Program} {w w' : World} {v u : Value} (hx : ρ x = v) (h : (convert t t' v).run P w = .ok u w') : (execOp ρ ⟨d, .convert t t' x, ty, pos, aft, g⟩).run P w = .ok (.value u) w' := by
  simp [execOp, hx, h]
theorem tmod_cases (a n : Int) (hn : 0 < n) : (0 ≤ a.tmod n ∧ a.tmod n = a % n) ∨ (a.tmod n < 0 ∧ a.tmod n + n = a % n ∧ -n < a.tmod n) := by
  have h := Int.tmod_eq_emod (a := a) (b := n)
  have h1 := Int.emod_nonneg a (b := n) (by omega)
  have h2 := Int.emod_lt_of_pos a hn
  by_cases hc : 0 ≤ a ∨ n ∣ a
  · rw [if_pos hc] at h; left; omega
  · rw [if_neg hc] at h
    have h0 : a % n ≠ 0 := fun e => hc (.inr (Int.dvd_of_emod_eq_zero e))
    right; omega
theorem flat1 (x : List UInt8) : (flat [x]).length = 8 + x.length := by simp [flat, eight_length]
theorem flat2 (x y : List UInt8) : (flat [x, y]).length = 16 + x.length + y.length := by simp [flat, eight_length]; omega
theorem len1 {x : List UInt8} {n : Nat} (hx : x.length ≤ n) : ∀ l ∈ [x], l.length ≤ n := fun l hl => by
  simp at hl
  rw [hl]; exact hx
theorem len2 {x y : List UInt8} {n : Nat} (hx : x.length ≤ n) (hy : y.length ≤ n) : ∀ l ∈ [x, y], l.length ≤ n := fun l hl => by
  simp at hl
  rcases hl with e | e <;> rw [e] <;> assumption
end Go.Sp
