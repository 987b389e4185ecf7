/-
  A part of the proofs of this seat: laws of the walk, or contracts of the functions that the statements reach. No conditions but those that each theorem names.
-/
import Derived.Test.YthpjihiikkhcjaaBase
import Derived.Test.YthpjihiikkhcjaaSt
import Derived.ChangeKeysEq
namespace Go.Sp
open Go.RowKit
/-- An array type of n whole numbers. -/
structure ArrI (P : Program) (t : TypeId) (n : Nat) (k : IntKind) : Prop where
  ok : ∃ e, P.underlying t = some (.array n e) ∧ P.cellsOf e = 1 ∧ P.plainKey e = true ∧ P.underlying e = some (.int k)
  guard : P.eqGuardType P.depth t = false
theorem run_eqItems_ints {P : Program} (w : World) (d : Nat) {e : TypeId} {k : IntKind} (he : P.plainKey e = true) (hu : P.underlying e = some (.int k)) (lx ly : List Int) : ∀ is : List Nat, (∀ i ∈ is, i < lx.length ∧ i < ly.length) →
    (Op.eqItems (d + 1) e 1 (lx.map (.int k)).toArray (ly.map (.int k)).toArray is).run P w = .ok (is.all fun i => lx[i]? == ly[i]?) w
  | [], _ => by simp [Op.eqItems]
  | i :: is, h => by
    obtain ⟨h1, h2⟩ := h i (List.mem_cons_self ..)
    have ih := run_eqItems_ints w d he hu lx ly is fun j hj => h j (List.mem_cons_of_mem _ hj)
    simp only [Op.eqItems, Nat.mul_one, Sem.run_bind]
    rw [run_part_plain w he (v := .int k lx[i]) (by simp [h1]), Result.andThen_ok, run_part_plain w he (v := .int k ly[i]) (by simp [h2]), Result.andThen_ok, run_equalIn_int w d e k k _ _ hu, Result.andThen_ok]
    by_cases hxy : lx[i] = ly[i]
    · simp [hxy, h1, h2, ih]
    · simp [hxy, h1, h2]
theorem run_eql_ints {P : Program} (w : World) {t : TypeId} {n : Nat} {k : IntKind} (hA : ArrI P t n k) (lx ly : List Int) (hx : lx.length = n) (hy : ly.length = n) :
    (binOp .eql t (.agg (lx.map (.int k)).toArray) (.agg (ly.map (.int k)).toArray)).run P w = .ok (.bool (lx == ly)) w := by
  obtain ⟨e, hu, hc, hp, hue⟩ := hA.ok
  obtain ⟨i, hi⟩ := info_of_underlying hue
  rw [run_eql_struct, run_equalIn_array w 9999 _ _ hu hi, hc, run_eqItems_ints w 9998 hp hue lx ly _ (fun i hi => by have := List.mem_range.1 hi; omega), Result.andThen_ok]
  congr 2
  rw [Bool.eq_iff_iff, List.all_eq_true, beq_iff_eq]
  constructor
  · intro h
    apply List.ext_getElem?
    intro j
    by_cases hj : j < n
    · simpa using h j (List.mem_range.2 hj)
    · rw [List.getElem?_eq_none (by omega), List.getElem?_eq_none (by omega)]
  · rintro rfl j _; simp
theorem mapB_ints (l : List UInt8) : l.map B = (l.map Ub).map (.int .u8) := by simp [B]
theorem mapUb_beq (l m : List UInt8) : (l.map Ub == m.map Ub) = (l == m) := by
  rw [Bool.eq_iff_iff, beq_iff_eq, beq_iff_eq]
  exact ⟨fun h => (List.map_inj_right fun x y h => (Ub_inj x y).1 h).1 h, fun h => by rw [h]⟩
section
variable {P : Program} {w : World} {ρ : Operand → Value} {d : Option Tmp} {ty t t' : TypeId} {pos : String} {aft : Array Edge} {g : Option (Nat × Bool)} {x y z : Operand}
theorem r_eqlA {n : Nat} {k : IntKind} (hA : ArrI P t n k) {lx ly : List Int} (hx : ρ x = .agg (lx.map (.int k)).toArray) (hy : ρ y = .agg (ly.map (.int k)).toArray) (hlx : lx.length = n) (hly : ly.length = n) :
    (execOp ρ ⟨d, .binOp .eql t x y t', ty, pos, aft, g⟩).run P w = .ok (.value (.bool (lx == ly))) w := by
  have h1 := run_eqGuard_agg (P := P) w .eql t x y (lx.map (.int k)).toArray (ly.map (.int k)).toArray hA.guard
  have h2 := run_eql_ints (P := P) w hA lx ly hlx hly
  simp only [execOp, hx, hy, Sem.run_bind, h1, h2, Result.andThen_ok, Sem.run_pure]
theorem r_eqlB {n : Nat} (hA : ArrI P t n .u8) {lx ly : List UInt8} (hx : ρ x = .agg (lx.map B).toArray) (hy : ρ y = .agg (ly.map B).toArray) (hlx : lx.length = n) (hly : ly.length = n) :
    (execOp ρ ⟨d, .binOp .eql t x y t', ty, pos, aft, g⟩).run P w = .ok (.value (.bool (lx == ly))) w := by
  rw [← mapUb_beq]
  exact r_eqlA hA (by rw [hx, mapB_ints]) (by rw [hy, mapB_ints]) (by simpa) (by simpa)
theorem r_pick {a : Bool} {v : Value} (hx : ρ x = .bool a) (hv : (if a then ρ y else ρ z) = v) : (execOp ρ ⟨d, .pick x y z, ty, pos, aft, g⟩).run P w = .ok (.value v) w := by
  subst hv
  simp [execOp, hx, asBool]
theorem r_not {a : Bool} (hx : ρ x = .bool a) : (execOp ρ ⟨d, .unOp .not t x, ty, pos, aft, g⟩).run P w = .ok (.value (.bool (!a))) w := by
  simp [execOp, hx, Op.unary]
theorem r_eqlI {k : IntKind} {a b : Int} (hx : ρ x = .int k a) (hy : ρ y = .int k b) : (execOp ρ ⟨d, .binOp .eql t x y t', ty, pos, aft, g⟩).run P w = .ok (.value (.bool (a == b))) w :=
  r_bin hx hy rfl (by simp [binOp, Op.intCmp])
end
end Go.Sp
