/-
  A part of the proofs of this seat: laws of the walk, or contracts of the functions that the statements reach. No conditions but those that each theorem names.
-/
import Derived.Test.YthpjihiikkhcjaaMem
namespace Go.Sp
open Go.RowKit
/-- The facts on a slice type of bytes. -/
structure BytT (P : Program) (t e : TypeId) : Prop where
  sl : P.underlying t = some (.slice e)
  el : P.underlying e = some (.int .u8)
  info : ∃ i, P.info? e = some i ∧ i.zero = some (.int .u8 0) ∧ i.size = 1 ∧ i.bytes = 1
/-- A slice value of the call's own: it may grow. -/
def Own (e : TypeId) (base : Nat) (w : World) (v : Value) (l : List UInt8) : Prop := w.ownsRow base e 1 v l.length (l.map B)
theorem Own.byt {e : TypeId} {n : Nat} {w : World} {v : Value} {l : List UInt8} (h : Own e n w v l) : Byt w v l := (Byt.own h).1
theorem Own.below {e : TypeId} {n : Nat} {w w' : World} {v : Value} {l : List UInt8} (h : Own e n w v l) (b : Below w.heap.size w w') : Own e n w' v l :=
  World.ownsRow.kept (row := none) h ⟨b.os, b.tape, b.output, b.size, fun k hk _ => b.block k hk⟩ (by cases hv : v.ownBlock <;> simp)
theorem Own.only {e : TypeId} {n p : Nat} {w w' : World} {v : Value} {l : List UInt8} (h : Own e n w v l) (b : Only p w w') (hp : v.ownBlock ≠ some p) : Own e n w' v l :=
  World.ownsRow.kept (row := some p) h ⟨b.os, b.tape, b.output, b.size, fun k hk hn => b.block k hk (fun e => hn (by rw [e]))⟩ (.inr hp)
theorem Own.mono {e : TypeId} {n m : Nat} {w : World} {v : Value} {l : List UInt8} (h : Own e n w v l) (hm : m ≤ n) : Own e m w v l := by
  refine ⟨h.1, ?_⟩
  rcases h.2 with h2 | ⟨g, cap, cur, hv, hg, r⟩
  · exact .inl h2
  · exact .inr ⟨g, cap, cur, hv, by omega, r⟩
theorem Own.lt {e : TypeId} {n : Nat} {w : World} {v : Value} {l : List UInt8} (h : Own e n w v l) : ∀ k, v.ownBlock = some k → n ≤ k ∧ k < w.heap.size := World.ownsRow.lt h
theorem Own.nil (e : TypeId) (n : Nat) (w : World) : Own e n w (.slice none 0 0) [] := World.ownsRow_nil w n e 1
theorem Own.lit (e : TypeId) (n : Nat) (w : World) (l : List UInt8) (hn : n ≤ w.heap.size) (hl : l.length ≤ maxLen) : Own e n (w.alloc (.cells (l.map B).toArray e)) (.slice (some ⟨w.heap.size, 0, none⟩) l.length l.length) l := by
  have := World.ownsRow_lit (base := n) (e := e) (size := 1) w (l.map B).toArray l.length hn hl (by simp)
  simpa [Own] using this
theorem toBelow {w w' : World} {row : Option Nat} {n : Nat} (h : w.grownBy w' row) (hn : n ≤ w.heap.size) (hr : ∀ k, row = some k → n ≤ k) : Below n w w' :=
  ⟨h.os, h.tape, h.output, h.size, fun k hk => h.block k (by omega) (fun e => by have := hr k e.symm; omega)⟩
section
variable {P : Program} (w : World)
theorem run_append_byt {t e : TypeId} (hT : BytT P t e) (ty : TypeId) (base : Nat) {v x : Value} {xs l : List UInt8} (hown : Own e base w v xs) (hx : Byt w x l)
    (hlen : xs.length + l.length ≤ 70368744177664) (hbase : base ≤ w.heap.size) :
    ∃ v' w', (Builtin.append_ #[t, t] ty #[v, x]).run P w = .ok v' w' ∧ Own e base w' v' (xs ++ l) ∧ w.grownBy w' v.ownBlock ∧ (v' = .slice none 0 0 ↔ v = .slice none 0 0 ∧ l = []) := by
  obtain ⟨i, hi, hz, hs, hb⟩ := hT.info
  rcases hx with ⟨rfl, rfl⟩ | ⟨g, off, cap, rfl, h1, h2, h3, h4⟩
  · exact ⟨v, w, run_append_owned_none (size := 1) w base t ty e i hT.sl hi v _ _ hown, by simpa using hown, ⟨rfl, rfl, rfl, Nat.le_refl _, fun _ _ _ => rfl⟩, by simp⟩
  · obtain ⟨v', w', hr, h5, h6, h7⟩ := run_append_own (P := P) w base t ty e i (.int .u8 0) 1 1 hT.sl hi hz hs hb rfl (by decide) v xs.length (xs.map B) hown ⟨g, off, none⟩ l.length cap (l.map B) (by simp)
      (fun j u hu => by
        rw [Addr.add_mid]
        simp at hu
        obtain ⟨b, hb, rfl⟩ := hu
        exact h4 j b hb) (fun u hu => by obtain ⟨b, _, rfl⟩ := List.mem_map.1 hu; rfl) (by unfold maxLen; omega) (by omega) hbase
    refine ⟨v', w', hr, ?_, h6, ?_⟩
    · unfold Own; rw [List.length_append, List.map_append]; exact h5
    · rw [h7, List.length_eq_zero_iff]
theorem wpList_append_byt {P : Program} {w : World} {ops : Array Oper} {rest : List Oper} {o : Oper} {a : Act} {Q : Exit → Act → World → Prop} {s x : Operand} {t e : TypeId} {base : Nat} {vs vx : Value} {xs l : List UInt8}
    (hgd : o.guard = none) (ho : o.op = .call { callee := .builtin .append, args := #[s, x], argTypes := #[t, t] }) (hT : BytT P t e) (hown : Own e base w vs xs) (hx : Byt w vx l) (hs : a.eval s = vs) (hx' : a.eval x = vx)
    (hlen : xs.length + l.length ≤ 70368744177664) (hbase : base ≤ w.heap.size)
    (h : ∀ v' w', Own e base w' v' (xs ++ l) → w.grownBy w' vs.ownBlock → (v' = .slice none 0 0 ↔ vs = .slice none 0 0 ∧ l = []) → wpList P ops Q rest (a.put o.dst v') w') : wpList P ops Q (o :: rest) a w :=
  wpList_plain hgd fun K hK => by
    obtain ⟨v', w', hr, h1, h2, h3⟩ := run_append_byt (P := P) w hT o.type base hown hx hlen hbase
    unfold Oper.wp execOp
    simp only [ho, resolve, invoke, builtin, Sem.run_bind, Sem.run_pure, Result.andThen_ok, List.map_toArray, List.map_cons, List.map_nil, hs, hx', hr]
    exact hK _ _ (h v' w' h1 h2 h3)
end
end Go.Sp
