/-
  A part of the proofs of this seat: laws of the walk, or contracts of the functions that the statements reach. No conditions but those that each theorem names.
-/
import Derived.Test.YthpjihiikkhcjaaMem2
namespace Go.Sp
open Go.RowKit
/-- An array's value goes into a whole block. -/
theorem wpList_store_blk {P : Program} {ops : Array Oper} {rest : List Oper} {op : Oper} {a : Act} {w : World} {Q : Exit → Act → World → Prop} {ty t : TypeId} {x y : Operand} {n : Nat} {z out : Array Value}
    (hgd : op.guard = none) (ho : op.op = .store ty x y) (hx : a.eval x = .pointer (some ⟨n, 0, none⟩)) (hy : a.eval y = .agg out) (hR : Blk w n z t) (hz : z.size = out.size) (hi : (P.info? ty).map (·.size) = some out.size) (h1 : out.all (·.oneCell') = true)
    (h : ∀ w', Blk w' n out t → Only n w w' → wpList P ops Q rest (a.put op.dst undef) w') : wpList P ops Q (op :: rest) a w := by
  refine wpList_store_mid hgd ty x y ho n 0 out hx hy (fun j hj => ⟨?_, hR.frozen _⟩) hi h1 (h _ ?_ ((Only.refl n w).setCells _ _ (.inl rfl)))
  · rw [hR.cell]; simp; omega
  · have := hR.setCells out.toList 0
    rw [putL_all _ _ (by rw [Array.length_toList, hz])] at this
    simpa using this
theorem bytes_one (l : List UInt8) : (l.map B).toArray.all (·.oneCell') = true := by simp [Value.oneCell']
end Go.Sp
