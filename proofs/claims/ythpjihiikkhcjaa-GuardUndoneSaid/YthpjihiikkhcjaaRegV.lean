/-
  A part of the proofs of this seat: laws of the walk, or contracts of the functions that the statements reach. No conditions but those that each theorem names.
-/
import Derived.Test.YthpjihiikkhcjaaReg
import Derived.Test.YthpjihiikkhcjaaSt
namespace Go.Sp
open Go.RowKit
/-- The world grows; what lay below n is as it was; no cell turns (a row of type bt may be marked). -/
structure ExtM (bt : TypeId) (n : Nat) (u u' : World) : Prop where
  below : Below n u u'
  keep : ∀ (g : Nat) (cs : Array Value) (t : TypeId) (fr : Nat × Nat), u.heap[g]? = some (.cells cs t fr) → ∃ fr', u'.heap[g]? = some (.cells cs t fr') ∧ (t ≠ bt → fr' = fr)
theorem ExtM.refl (bt : TypeId) (n : Nat) (u : World) : ExtM bt n u u := ⟨Below.refl _ _, fun _ _ _ fr h => ⟨fr, h, fun _ => rfl⟩⟩
theorem ExtM.trans {bt : TypeId} {n : Nat} {a b c : World} (h : ExtM bt n a b) (k : ExtM bt n b c) : ExtM bt n a c := ⟨h.below.trans k.below, fun g cs t fr hg => by
  obtain ⟨f1, h1, e1⟩ := h.keep g cs t fr hg
  obtain ⟨f2, h2, e2⟩ := k.keep g cs t f1 h1
  exact ⟨f2, h2, fun ht => (e2 ht).trans (e1 ht)⟩⟩
theorem ExtM.drew (bt : TypeId) (n : Nat) (w : World) : ExtM bt n w w.drew := ⟨(Below.refl _ _).drew, fun _ _ _ fr h => ⟨fr, h, fun _ => rfl⟩⟩
theorem ExtM.of {bt : TypeId} {n : Nat} {u u' : World} (h : Below u.heap.size u u') (hn : n ≤ u.heap.size) : ExtM bt n u u' := ⟨h.mono hn, fun g _ _ fr hg => ⟨fr, (h.block g (Array.getElem?_eq_some_iff.1 hg).1).trans hg, fun _ => rfl⟩⟩
theorem ExtM.cell {bt : TypeId} {n : Nat} {u u' : World} (h : ExtM bt n u u') {a : Addr} {v : Value} (hc : u.cell? a = some v) : u'.cell? a = some v := by
  unfold World.cell? at *
  cases hg : u.heap[a.block]? with
  | none => simp [hg] at hc
  | some o =>
    cases o <;> simp [hg] at hc
    rename_i cs t fr
    obtain ⟨f', h', _⟩ := h.keep _ cs t fr hg
    simpa [h'] using hc
def wantE (ops : Array Oper) (a : Act) (e : Env) (o : Oper) : Bool :=
  match o.guard with
  | none => true
  | some (g, b) => match (ops[g]?).bind (·.dst) with
    | some t => (match rhoE a e (.tmp t) with | .bool c => c == b | _ => false)
    | none => false
theorem wanted_E {ops : Array Oper} {a : Act} {e : Env} {o : Oper} (he : ∀ p ∈ e, p.1 < a.tmps.size) : Region.wanted o (yielded ops (withEnv a e).tmps) = wantE ops a e o := by
  unfold Region.wanted wantE
  cases hg : o.guard with
  | none => rfl
  | some gb =>
    obtain ⟨g, b⟩ := gb
    simp only [yielded]
    cases ht : (ops[g]?).bind (·.dst) with
    | none => simp
    | some t =>
      have h1 : rhoE a e (.tmp t) = ((withEnv a e).tmps[t]?).getD undef := by
        rw [← eval_withEnv a e he]; simp [Act.eval]
      simp only [h1, Option.bind_some]
      cases hv : (withEnv a e).tmps[t]? with
      | none => simp; rfl
      | some v => cases v <;> simp
def feedB (ops : Array Oper) (o : Oper) (j : Nat) : Bool :=
  match ops[j]? with
  | some p => (match p.dst with | some d => (o.looksAt ops).contains d | none => false)
  | none => false
/-- One walk in the text's order over a frame and what has come since. The exact ones (ex) have their values (c); of the others x tells. -/
def stepsVE (bt : TypeId) (P : Program) (ops : Array Oper) (w : World) (ex : Nat → Bool) (c : Nat → Value) (V : Nat → Value → World → Prop) (x : Nat → Value) (a : Act) (fin : Act → World → Prop) : List Oper → Nat → Env → Prop
  | [], _, e => ∀ w1, ExtM bt w.heap.size w w1 → (∀ j, j < ops.size → ex j = false → V j (x j) w1) → fin (withEnv a e) w1
  | o :: rest, i, e =>
    wantE ops a e o = true ∧ (∀ w1, ExtM bt w.heap.size w w1 → (∀ j, feedB ops o j = true → j < i → ex j = false → V j (x j) w1) → Gives P (fun v w2 => ExtM bt w.heap.size w1 w2 ∧ if ex i then v = c i else V i v w2) ((execOp (rhoE a e) o).run P w1)) ∧
    stepsVE bt P ops w ex c V x a fin rest (i + 1) (pushE o.dst (if ex i then c i else x i) e)
section
variable {bt : TypeId} {P : Program} {ops : Array Oper} {w : World} {ex : Nat → Bool} {c : Nat → Value} {V : Nat → Value → World → Prop} {x : Nat → Value} {a : Act} {fin : Act → World → Prop}
theorem stepsV_of_E (hx : ∀ j, ex j = true → x j = c j) : ∀ (l : List Oper) (i : Nat) (e : Env), (∀ p ∈ e, p.1 < a.tmps.size) → (l.all (fun o => match o.dst with | some d => decide (d < a.tmps.size) | none => true) = true) →
    stepsVE bt P ops w ex c V x a fin l i e → stepsV P ops (ExtM bt w.heap.size) w (fun i v u => if ex i then v = c i else V i v u) x fin l i (withEnv a e)
  | [], _, _, _, _, h => fun w1 h1 h2 => h w1 h1 fun j hj he => by simpa [he] using h2 j hj
  | o :: l, i, e, he, hl, h => by
    simp only [List.all_cons, Bool.and_eq_true] at hl
    obtain ⟨h1, h2, h3⟩ := h
    have hput : ∀ v, (withEnv a e).put o.dst v = withEnv a (pushE o.dst v e) := fun v => by cases o.dst <;> rfl
    have hb : ∀ v, ∀ p ∈ pushE o.dst v e, p.1 < a.tmps.size := fun v => by
      cases hd : o.dst with
      | none => exact he
      | some d =>
        intro p hp
        simp only [pushE, List.mem_cons] at hp
        rcases hp with rfl | hp
        · have := hl.1; rw [hd] at this; simpa using this
        · exact he p hp
    have hxi : (if ex i then c i else x i) = x i := by
      by_cases hh : ex i = true
      · rw [if_pos hh, hx i hh]
      · rw [if_neg hh]
    rw [hxi] at h3
    refine ⟨fun w1 hw1 hf => ?_, ?_⟩
    · rw [wanted_E he, if_pos h1, eval_withEnv a e he]
      refine h2 w1 hw1 fun j hj hlt hej => ?_
      have := hf j (by
        unfold feedB at hj
        refine List.mem_filter.2 ⟨List.mem_range.2 ?_, ?_⟩
        · cases hp : ops[j]? with
          | none => simp [hp] at hj
          | some p => exact (Array.getElem?_eq_some_iff.1 hp).1
        · cases hp : ops[j]? with
          | none => simp [hp] at hj
          | some p => cases hd : p.dst <;> simp_all) hlt
      simpa [hej] using this
    · rw [hput]
      exact stepsV_of_E hx l _ _ (hb _) hl.2 h3
theorem wp_region_VE {Q : Exit → Act → World → Prop} {id : Nat} {l : List Oper} (ex : Nat → Bool) (c : Nat → Value) (V : Nat → Value → World → Prop) (hm : P.follows .mixedOrders = true) (hok : okV l.toArray = true)
    (hsz : l.all (fun o => match o.dst with | some d => decide (d < a.tmps.size) | none => true) = true) (hmono : ∀ j v u u', ExtM bt w.heap.size u u' → V j v u → V j v u')
    (h : ∀ x, stepsVE bt P l.toArray w ex c V x a (fun a' w' => Q .normal a' w') l 0 []) : (Code.region id l.toArray true).wp P Q a w :=
  wp_region_K (R := ExtM bt w.heap.size) (fun i v u => if ex i then v = c i else V i v u) ex c (fun j v u hj hv => by simpa [hj] using hv) hm hok (ExtM.refl _ _) (fun _ _ _ => ExtM.trans) (ExtM.drew _ _ w)
    (fun j v u u' hu hv => by
      by_cases hj : ex j = true
      · rw [if_pos hj] at *; exact hv
      · rw [if_neg hj] at *; exact hmono j v u u' hu hv)
    fun x hx => stepsV_of_E (a := a) hx l 0 [] (fun _ h => by cases h) hsz (h x)
variable {rest : List Oper} {i d : Nat} {e : Env} {op : Op} {ty : TypeId} {pos : String} {aft : Array Edge} {gd : Option (Nat × Bool)}
/-- An operation whose value is told, and that turns nothing. -/
theorem VE_ex {v : Value} (hx : ex i = true) (hc : c i = v) (hw : wantE ops a e ⟨some d, op, ty, pos, aft, gd⟩ = true)
    (h : ∀ w1, ExtM bt w.heap.size w w1 → (∀ j, feedB ops ⟨some d, op, ty, pos, aft, gd⟩ j = true → j < i → ex j = false → V j (x j) w1) → (execOp (rhoE a e) ⟨some d, op, ty, pos, aft, gd⟩).run P w1 = .ok (.value v) w1)
    (k : stepsVE bt P ops w ex c V x a fin rest (i + 1) ((d, v) :: e)) : stepsVE bt P ops w ex c V x a fin (⟨some d, op, ty, pos, aft, gd⟩ :: rest) i e := by
  subst hc
  refine ⟨hw, fun w1 h1 h2 => ?_, by simpa [hx, pushE] using k⟩
  rw [h w1 h1 h2]
  exact ⟨ExtM.refl _ _ _, by simp [hx]⟩
/-- A call whose result is told. -/
theorem VE_call {v : Value} {f : FuncId} {args : Array Value} (hx : ex i = true) (hc : c i = v) (hw : wantE ops a e ⟨some d, op, ty, pos, aft, gd⟩ = true)
    (hr : ∀ w1, (execOp (rhoE a e) ⟨some d, op, ty, pos, aft, gd⟩).run P w1 = .ok (.enter f args) w1)
    (h : ∀ w1, ExtM bt w.heap.size w w1 → (∀ j, feedB ops ⟨some d, op, ty, pos, aft, gd⟩ j = true → j < i → ex j = false → V j (x j) w1) → Calls P f args w1 fun e' w2 => e' = .returned v ∧ ExtM bt w.heap.size w1 w2)
    (k : stepsVE bt P ops w ex c V x a fin rest (i + 1) ((d, v) :: e)) : stepsVE bt P ops w ex c V x a fin (⟨some d, op, ty, pos, aft, gd⟩ :: rest) i e := by
  subst hc
  refine ⟨hw, fun w1 h1 h2 => ?_, by simpa [hx, pushE] using k⟩
  rw [hr w1]
  exact (h w1 h1 h2).mono fun e' w2 ⟨he, hw⟩ => ⟨_, he, hw, by simp [hx]⟩
/-- An operation of which V tells. -/
theorem VE_any (hx : ex i = false) (hw : wantE ops a e ⟨some d, op, ty, pos, aft, gd⟩ = true)
    (h : ∀ w1, ExtM bt w.heap.size w w1 → (∀ j, feedB ops ⟨some d, op, ty, pos, aft, gd⟩ j = true → j < i → ex j = false → V j (x j) w1) → ∃ v w2, (execOp (rhoE a e) ⟨some d, op, ty, pos, aft, gd⟩).run P w1 = .ok (.value v) w2 ∧ ExtM bt w.heap.size w1 w2 ∧ V i v w2)
    (k : stepsVE bt P ops w ex c V x a fin rest (i + 1) ((d, x i) :: e)) : stepsVE bt P ops w ex c V x a fin (⟨some d, op, ty, pos, aft, gd⟩ :: rest) i e := by
  refine ⟨hw, fun w1 h1 h2 => ?_, by simpa [hx, pushE] using k⟩
  obtain ⟨v, w2, hr, h3, h4⟩ := h w1 h1 h2
  rw [hr]
  exact ⟨h3, by simpa [hx] using h4⟩
theorem VE_callp {f : FuncId} {args : Array Value} (hx : ex i = false) (hw : wantE ops a e ⟨some d, op, ty, pos, aft, gd⟩ = true)
    (hr : ∀ w1, (execOp (rhoE a e) ⟨some d, op, ty, pos, aft, gd⟩).run P w1 = .ok (.enter f args) w1)
    (h : ∀ w1, ExtM bt w.heap.size w w1 → (∀ j, feedB ops ⟨some d, op, ty, pos, aft, gd⟩ j = true → j < i → ex j = false → V j (x j) w1) → Calls P f args w1 fun e' w2 => ∃ v, e' = .returned v ∧ ExtM bt w.heap.size w1 w2 ∧ V i v w2)
    (k : stepsVE bt P ops w ex c V x a fin rest (i + 1) ((d, x i) :: e)) : stepsVE bt P ops w ex c V x a fin (⟨some d, op, ty, pos, aft, gd⟩ :: rest) i e := by
  refine ⟨hw, fun w1 h1 h2 => ?_, by simpa [hx, pushE] using k⟩
  rw [hr w1]
  exact (h w1 h1 h2).mono fun e' w2 ⟨v, he, hw, hv⟩ => ⟨v, he, hw, by simpa [hx] using hv⟩
theorem VE_nil (h : ∀ w1, ExtM bt w.heap.size w w1 → (∀ j, j < ops.size → ex j = false → V j (x j) w1) → fin (withEnv a e) w1) : stepsVE bt P ops w ex c V x a fin [] i e := h
end
attribute [irreducible] stepsVE
end Go.Sp
