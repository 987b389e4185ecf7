/-
  A part of the proofs of this seat: laws of the walk, or contracts of the functions that the statements reach. No conditions but those that each theorem names.
-/
import Derived.Test.YthpjihiikkhcjaaRes
namespace Go.Sp
open Go.RowKit
def cutA (a : Option Addr) (cap lo : Nat) : Option Addr := if cap = lo then a else a.map fun x => x.add lo
def cutV (a : Option Addr) (cap lo hi : Nat) : Value := .slice (cutA a cap lo) (hi - lo) (cap - lo)
theorem cutV_own (a : Option Addr) (cap lo hi : Nat) (n : Nat) : (cutV a cap lo hi).ownBlock = (Value.slice a n cap).ownBlock := by
  unfold cutV cutA
  cases a with
  | none => split <;> rfl
  | some x =>
    split
    · rfl
    · simp [Value.ownBlock, Addr.add]
      split <;> rfl
theorem Byt.cut {w : World} {a : Option Addr} {L c : Nat} {l : List UInt8} (h : Byt w (.slice a L c) l) (lo hi : Nat) (h1 : lo ≤ hi) (h2 : hi ≤ l.length) : Byt w (cutV a c lo hi) ((l.take hi).drop lo) := by
  rcases h with ⟨h, rfl⟩ | ⟨g, off, cap, hv, k1, k2, k3, k4⟩
  · simp only [Value.slice.injEq] at h
    obtain ⟨rfl, rfl, rfl⟩ := h
    simp at h2
    subst h2
    obtain rfl : lo = 0 := by omega
    exact .inl ⟨by simp [cutV, cutA], by simp⟩
  · simp only [Value.slice.injEq] at hv
    obtain ⟨rfl, rfl, rfl⟩ := hv
    have hlen : ((l.take hi).drop lo).length = hi - lo := by simp; omega
    unfold cutV cutA
    by_cases hc : c = lo
    · rw [if_pos hc]
      refine .inr ⟨g, off, c - lo, by rw [hlen], by omega, by omega, k3, fun i b hi' => ?_⟩
      have := (List.getElem?_eq_some_iff.1 hi').1
      omega
    · rw [if_neg hc]
      refine .inr ⟨g, off + lo, c - lo, by rw [hlen]; simp [Addr.add_mid], by omega, by omega, k3, fun i b hi' => ?_⟩
      rw [List.getElem?_drop, List.getElem?_take] at hi'
      split at hi'
      · rw [Nat.add_assoc]; exact k4 _ _ hi'
      · cases hi'
/-- The facts on a slice type of one cell an element. -/
structure Sl1 (P : Program) (t e : TypeId) : Prop where
  sl : P.underlying t = some (.slice e)
  info : ∃ i, P.info? e = some i ∧ i.size = 1
theorem Sl1.elem {P : Program} {t e : TypeId} (h : Sl1 P t e) : P.elem t = e := by simp [Program.elem, h.sl]
section
variable {P : Program} {w : World} {ρ : Operand → Value} {d : Option Tmp} {ty t e : TypeId} {pos : String} {aft : Array Edge} {g : Option (Nat × Bool)} {x y z : Operand} {a : Option Addr} {len cap : Nat}
theorem run_sizeOf1 (hT : Sl1 P t e) : (sizeOf e).run P w = .ok 1 w := by
  obtain ⟨i, hi, hs⟩ := hT.info
  simp [sizeOf, typeInfo, hi, hs]
theorem r_slLH {k k' : IntKind} {lo hi : Nat} (hT : Sl1 P t e) (hx : ρ x = .slice a len cap) (hy : ρ y = .int k lo) (hz : ρ z = .int k' hi) (h1 : lo ≤ hi) (h2 : hi ≤ cap) :
    (execOp ρ ⟨d, .slice t x (some y) (some z) none, ty, pos, aft, g⟩).run P w = .ok (.value (cutV a cap lo hi)) w := by
  have h := run_slice_lh (P := P) w t a len cap (by rw [hT.elem]; exact hT.sl) k k' lo hi (by omega) (by omega) (by omega)
  rw [hT.elem, run_sizeOf1 hT] at h
  simp only [execOp, hx, Option.map_some, hy, hz, Option.map_none, Sem.run_bind]
  rw [run_sliceAt_slice w t _ _ _ _ (by rw [hT.elem]; exact hT.sl), h]
  simp [cutV, cutA, sliced]
theorem r_slH {k' : IntKind} {hi : Nat} (hT : Sl1 P t e) (hx : ρ x = .slice a len cap) (hz : ρ z = .int k' hi) (h2 : hi ≤ cap) :
    (execOp ρ ⟨d, .slice t x none (some z) none, ty, pos, aft, g⟩).run P w = .ok (.value (cutV a cap 0 hi)) w := by
  have h := run_slice_h (P := P) w t a len cap (by rw [hT.elem]; exact hT.sl) k' hi (by omega) (by omega)
  rw [hT.elem, run_sizeOf1 hT] at h
  simp only [execOp, hx, Option.map_some, hz, Option.map_none, Sem.run_bind]
  rw [run_sliceAt_slice w t _ _ _ _ (by rw [hT.elem]; exact hT.sl), h]
  simp [cutV, cutA, sliced]
theorem r_slL {k : IntKind} {lo : Nat} (hT : Sl1 P t e) (hx : ρ x = .slice a len cap) (hy : ρ y = .int k lo) (h2 : lo ≤ len) :
    (execOp ρ ⟨d, .slice t x (some y) none none, ty, pos, aft, g⟩).run P w = .ok (.value (cutV a cap lo len)) w := by
  have h := run_slice_l (P := P) w t a len cap (by rw [hT.elem]; exact hT.sl) k lo (by omega) (by omega)
  rw [hT.elem, run_sizeOf1 hT] at h
  simp only [execOp, hx, Option.map_some, hy, Option.map_none, Sem.run_bind]
  rw [run_sliceAt_slice w t _ _ _ _ (by rw [hT.elem]; exact hT.sl), h]
  simp [cutV, cutA, sliced]
end
theorem wpList_val {P : Program} {ops : Array Oper} {rest : List Oper} {o : Oper} {a : Act} {w w' : World} {Q : Exit → Act → World → Prop} {v : Value} (hg : o.guard = none) (hr : (execOp a.eval o).run P w = .ok (.value v) w')
    (h : wpList P ops Q rest (a.put o.dst v) w') : wpList P ops Q (o :: rest) a w :=
  wpList_plain hg fun K hK => by
    unfold Oper.wp
    rw [hr]
    exact hK _ _ h
end Go.Sp
