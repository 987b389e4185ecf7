/-
  A part of the proofs of this seat: laws of the walk, or contracts of the functions that the statements reach. No conditions but those that each theorem names.
-/
import Derived.Test.YthpjihiikkhcjaaRegHI
import Derived.Test.YthpjihiikkhcjaaRes
namespace Go.Sp
open Go.RowKit
section
variable {P : Program} {w : World} {ρ : Operand → Value} {d : Option Tmp} {ty t t' : TypeId} {pos : String} {aft : Array Edge} {g : Option (Nat × Bool)} {x y : Operand}
theorem r_storeBlk {n : Nat} {z out : Array Value} {tb : TypeId} (hx : ρ x = .pointer (some ⟨n, 0, none⟩)) (hy : ρ y = .agg out) (hR : Blk w n z tb) (hz : z.size = out.size) (hi : (P.info? t).map (·.size) = some out.size) (h1 : out.all (·.oneCell') = true) :
    ∃ w', (execOp ρ ⟨d, .store t x y, ty, pos, aft, g⟩).run P w = .ok .skip w' ∧ Blk w' n out tb ∧ Only n w w' ∧ w' = w.setCells n 0 out.toList := by
  refine ⟨w.setCells n 0 out.toList, ?_, ?_, (Only.refl n w).setCells _ _ (.inl rfl), rfl⟩
  · unfold execOp
    simp only [hx, hy, Instr.storeAt, Instr.sureAddr, Sem.run_bind, Sem.run_pure, Result.andThen_ok, run_storeVar_mid w n 0 t out (fun j hj => ⟨by rw [hR.cell]; simp; omega, hR.frozen _⟩) hi h1]
  · have := hR.setCells out.toList 0
    rw [putL_all _ _ (by rw [Array.length_toList, hz])] at this
    simpa using this
theorem r_loadBlk {n : Nat} {cs : Array Value} {tb : TypeId} {dsc : TypeDesc} (hx : ρ x = .pointer (some ⟨n, 0, none⟩)) (hR : Blk w n cs tb) (hu : P.underlying t = some dsc) (hd : dsc.isRow = true) (hi : (P.info? t).map (·.size) = some cs.size) :
    (execOp ρ ⟨d, .load t x, ty, pos, aft, g⟩).run P w = .ok (.value (.agg cs)) w := by
  have hr : w.rangeAt n 0 cs.toList := fun j v hj => by
    rw [hR.cell, Nat.zero_add]; simpa using hj
  have := run_loadAt_mid (P := P) w n 0 t cs.toList dsc hr hu hd (by simpa using hi)
  unfold execOp
  simp only [hx, Sem.run_bind, this, Result.andThen_ok, Sem.run_pure]
def oneS (P : Program) (t : TypeId) : Bool := match P.info? t with | some i => i.size == 1 | none => false
theorem r_store1 {b o : Nat} {v : Value} (hx : ρ x = .pointer (some ⟨b, o, none⟩)) (hy : ρ y = v) (ht : oneS P t = true) (hc : (w.cell? ⟨b, o, none⟩).isSome = true) (hf : w.frozen? ⟨b, o, none⟩ = false) (ho : v.oneCell' = true) :
    (execOp ρ ⟨d, .store t x y, ty, pos, aft, g⟩).run P w = (.ok .skip (w.setCell ⟨b, o, none⟩ v)) := by
  unfold oneS at ht
  cases hi : P.info? t with
  | none => simp [hi] at ht
  | some inf =>
    simp [hi] at ht
    obtain ⟨u, hu'⟩ := Option.isSome_iff_exists.1 hc
    have hcs : v.cells = #[v] := by cases v <;> simp_all [Value.oneCell', Value.cells]
    have hst : (store ⟨b, o, none⟩ v).run P w = .ok () (w.setCell ⟨b, o, none⟩ v) := by rw [run_store _ _ _ _ _ ho, hu']; simp [hf]
    simp [execOp, hx, hy, Instr.storeAt, Instr.sureAddr, storeVar, sizeOf, typeInfo, hi, ht, hcs, storeCells, Addr.add_mid, hst]
end
end Go.Sp
namespace Go.Sp
open Go.RowKit
section
variable {F : Fence} {n : Nat} {P : Program} {ops : Array Oper} {Q : Exit → Act → World → Prop} {a : Act} {w w' : World} {rest : List Oper} {o : Oper} {v : Value}
theorem wpListIn_gives (hF : WideF F) (hg : o.guard = none) (hd : isDefer o = false) (h : GivesI F n P (fun v w' => wpListIn F n P ops Q rest (a.put o.dst v) w') ((execOp a.eval o).run P w)) : wpListIn F n P ops Q (o :: rest) a w :=
  wpListIn_plain hg fun _ hK => wpIn_of_gives hF hd (h.mono fun _ _ h => hK _ _ h)
theorem wpListIn_skp (hF : WideF F) (hg : o.guard = none) (hd : isDefer o = false) (hr : (execOp a.eval o).run P w = .ok .skip w') (h : wpListIn F n P ops Q rest (a.put o.dst undef) w') : wpListIn F n P ops Q (o :: rest) a w :=
  wpListIn_gives hF hg hd (by rw [hr]; exact h)
theorem wpListIn_val (hF : WideF F) (hg : o.guard = none) (hd : isDefer o = false) (hr : (execOp a.eval o).run P w = .ok (.value v) w') (h : wpListIn F n P ops Q rest (a.put o.dst v) w') : wpListIn F n P ops Q (o :: rest) a w :=
  wpListIn_gives hF hg hd (by rw [hr]; exact h)
end
end Go.Sp
