/-
  A part of the proofs of this seat: laws of the walk, or contracts of the functions that the statements reach. No conditions but those that each theorem names.
-/
import Derived.Test.YthpjihiikkhcjaaMm
import Derived.Lib.AppendZerosOnto
namespace Go.Sp
open Go.RowKit
theorem zeroCells_u8 (k : Nat) : Builtin.zeroCells #[.int .u8 0] k = (List.replicate k (B 0)).toArray := by
  unfold Builtin.zeroCells
  apply Array.ext
  · simp
  · intro i h1 h2
    simp [B, Nat.mod_one]
    rfl
theorem run_firstCells_own {P : Program} {w : World} {e : TypeId} {base : Nat} {a : Option Addr} {n c : Nat} {l : List UInt8} (h : Own e base w (.slice a n c) l) (hn : n = l.length) : (Builtin.firstCells 1 n (.slice a n c)).run P w.drew = .ok (l.map B).toArray w.drew := by
  subst hn
  rcases h.2 with ⟨h1, h2⟩ | ⟨g, cap, cur, h1, hb, hg, hc, hcm, hcs, ht⟩
  · simp only [Value.slice.injEq] at h1
    obtain ⟨rfl, hl, rfl⟩ := h1
    simp [Builtin.firstCells, List.eq_nil_of_length_eq_zero h2]
  · cases h1
    exact run_firstCells_some (P := P) w.drew 1 l.length ⟨g, 0, none⟩ l.length c (l.map B) (by simp) (by
      intro j u hu
      exact World.ownsRow.cells h (g := g) rfl j u hu)
theorem run_append_zeros {P : Program} (w : World) {t tn e : TypeId} {kn kq : IntKind} (hT : BytT P t e) (htn : P.underlying tn = some (.int kn)) (ty : TypeId) (base : Nat) {v : Value} {xs : List UInt8} (k : Nat) (hown : Own e base w v xs)
    (hlen : xs.length + k ≤ 70368744177664) (hbase : base ≤ w.heap.size) :
    ∃ v' w', (Builtin.append_ #[t, tn] ty #[v, .int kq k]).run P w = .ok v' w' ∧ Own e base w' v' (xs ++ List.replicate k 0) ∧ w.grownBy w' v.ownBlock := by
  obtain ⟨i, hi, hz, hs, hb⟩ := hT.info
  have hw : IntKind.i64.wrap (k : Int) = k := by rw [IntKind.wrap_i64]; omega
  have hneg : ¬ ((k : Int) < 0) := by omega
  have hbig : ¬ (281474976710656 < (k : Int)) := by omega
  obtain ⟨a, cap, rfl, hc, hm⟩ := hown.byt.len
  by_cases hroom : xs.length + k ≤ cap
  · by_cases hk : k = 0
    · subst hk
      refine ⟨_, w, ?_, by simpa using hown, ⟨rfl, rfl, rfl, Nat.le_refl _, fun _ _ _ => rfl⟩⟩
      cases a <;> simp [Builtin.append_, run_underlying hT.sl, run_underlying htn, sizeOf, typeInfo, zeroValue, hi, hz, hb, asInt, asIntOf, IntKind.wrap_i64, hc, storeCells]
    · rcases hown.2 with ⟨h1, _⟩ | ⟨g, cap', cur, h1, hbg, hg, _, hcm, hcs, htake⟩
      · simp only [Value.slice.injEq] at h1; omega
      · cases h1
        have hst := run_storeCells_at P g (xs.length * 1) e (List.replicate k (B 0)) 0 cur w hg (by simp; omega) (by intro u hu; rw [List.eq_of_mem_replicate hu]; rfl)
        refine ⟨.slice (some ⟨g, 0, none⟩) (xs.length + k) cap, w.setRow g (cur.toList.take (xs.length * 1 + 0) ++ List.replicate k (B 0) ++ cur.toList.drop (xs.length * 1 + 0 + (List.replicate k (B 0)).length)).toArray, ?_, ⟨by simp, .inr ⟨g, cap, (cur.toList.take (xs.length * 1 + 0) ++ List.replicate k (B 0) ++ cur.toList.drop (xs.length * 1 + 0 + (List.replicate k (B 0)).length)).toArray, ?_, hbg, setRow_heap w g cur _ e _ hg, ?_, hcm, ?_, ?_⟩⟩, ⟨rfl, rfl, rfl, by simp, fun j _ hj => setRow_other w g j _ (fun e => hj (by simp [Value.ownBlock, e]))⟩⟩
        · simp [Builtin.append_, run_underlying hT.sl, run_underlying htn, sizeOf, typeInfo, zeroValue, hi, hz, hs, hb, asInt, asIntOf, hw, hneg, hbig, hk, hroom, Addr.add_lit]
          simp only [Nat.mul_one] at hst
          rw [show (Value.int IntKind.u8 0).cells = #[Value.int .u8 0] from rfl, zeroCells_u8, hst]; simp
        · simp
        · simpa using hroom
        · simp; omega
        · have h2 : (xs.map B).length = xs.length := by simp
          simp only [Nat.add_zero]
          rw [htake, List.map_append, List.map_replicate, List.length_append, List.length_replicate]
          exact List.take_left' (by simp)
  · have hr := Lib.run_append_grow_zeros (P := P) w t tn ty e i (.int .u8 0) kq kn hT.sl htn hi hz a xs.length cap (xs.map B) (by rw [hs]; exact run_firstCells_own hown rfl) k (by omega) (by omega) (by omega) (by omega) (by rw [hb]; omega) (by rw [hb]; exact growslice_fits (by omega) (by omega))
    rw [show (Value.int IntKind.u8 0).cells = #[Value.int .u8 0] from rfl] at hr
    have hge := grownCap_ge w (xs.length + k) cap e
    have hcm : grownCap w (xs.length + k) cap e ≤ maxLen := grownCap_le_maxLen w _ cap e (by unfold maxLen; omega)
    refine ⟨_, _, hr, ⟨by simp, .inr ⟨w.heap.size, _, _, ?_, hbase, heap_alloc_new w.drew _, ?_, hcm, ?_, ?_⟩⟩, ⟨rfl, rfl, rfl, by simp, fun j hj _ => heap_alloc_old w.drew _ hj⟩⟩
    · simp
    · simpa using hge
    · simp [zeroCells_u8]; omega
    · simp only [zeroCells_u8, List.append_toArray]
      rw [List.map_append, List.map_replicate]
      exact List.take_left' (by simp)
theorem wpList_append_zeros {P : Program} {w : World} {ops : Array Oper} {rest : List Oper} {o : Oper} {a : Act} {Q : Exit → Act → World → Prop} {s x : Operand} {t tn e : TypeId} {kn kq : IntKind} {base : Nat} {vs : Value} {xs : List UInt8} {k : Nat}
    (hgd : o.guard = none) (ho : o.op = .call { callee := .builtin .append, args := #[s, x], argTypes := #[t, tn] }) (hT : BytT P t e) (htn : P.underlying tn = some (.int kn)) (hown : Own e base w vs xs) (hs : a.eval s = vs) (hx' : a.eval x = .int kq k)
    (hlen : xs.length + k ≤ 70368744177664) (hbase : base ≤ w.heap.size)
    (h : ∀ v' w', Own e base w' v' (xs ++ List.replicate k 0) → w.grownBy w' vs.ownBlock → wpList P ops Q rest (a.put o.dst v') w') : wpList P ops Q (o :: rest) a w :=
  wpList_plain hgd fun K hK => by
    obtain ⟨v', w', hr, h1, h2⟩ := run_append_zeros (P := P) w hT htn o.type base k hown hlen hbase (kq := kq)
    unfold Oper.wp execOp
    simp only [ho, resolve, invoke, builtin, Sem.run_bind, Sem.run_pure, Result.andThen_ok, List.map_toArray, List.map_cons, List.map_nil, hs, hx', hr]
    exact hK _ _ (h v' w' h1 h2)
end Go.Sp
