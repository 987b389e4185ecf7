/-
  A part of the proofs of this seat: laws of the walk, or contracts of the functions that the statements reach. No conditions but those that each theorem names.
-/
import Derived.Test.YthpjihiikkhcjaaBase
import Derived.StillTail
namespace Go.Sp
open Go.RowKit
abbrev Env := List (Nat × Value)
def look : Env → Nat → Option Value
  | [], _ => none
  | (d, v) :: e, t => match Nat.beq d t with | true => some v | false => look e t
def withEnv (a : Act) : Env → Act
  | [] => a
  | (d, v) :: e => (withEnv a e).put (some d) v
/-- What an operand is, over a frame and what has come since. -/
def rhoE (a : Act) (e : Env) : Operand → Value
  | .tmp t => match look e t with | some v => v | none => a.tmps.getD t undef
  | .const v => v
  | .global g => .pointer (some ⟨g, 0, none⟩)
  | .func f => .func (.func f) #[] #[]
theorem withEnv_size (a : Act) : ∀ e : Env, (withEnv a e).tmps.size = a.tmps.size
  | [] => rfl
  | (d, v) :: e => by simp [withEnv, Act.put, withEnv_size a e]
theorem eval_withEnv (a : Act) : ∀ (e : Env), (∀ p ∈ e, p.1 < a.tmps.size) → (withEnv a e).eval = rhoE a e
  | [], _ => by funext x; cases x <;> rfl
  | (d, v) :: e, h => by
    have ih := eval_withEnv a e fun p hp => h p (List.mem_cons_of_mem _ hp)
    funext x
    cases x with
    | tmp t =>
      have hd := h (d, v) (List.mem_cons_self ..)
      have iht := congrFun ih (.tmp t)
      simp only [Act.eval, rhoE] at iht
      simp only [Act.eval, rhoE, withEnv, Act.put, look]
      cases hb : Nat.beq d t with
      | true =>
        have := Nat.eq_of_beq_eq_true hb
        subst this
        simp [withEnv_size, hd]
      | false =>
        have hne : d ≠ t := fun e => by subst e; simp [Nat.beq_refl] at hb
        rw [← iht]
        simp [Array.getElem?_setIfInBounds_ne hne]
    | _ => rfl
theorem rho_env {a : Act} {e : Env} {t : Nat} {v : Value} (h : look e t = some v) : rhoE a e (.tmp t) = v := by simp [rhoE, h]
def lookL : List Value → Nat → Option Value
  | [], _ => none
  | x :: _, 0 => some x
  | _ :: xs, n + 1 => lookL xs n
theorem lookL_eq : ∀ (l : List Value) (n : Nat), lookL l n = l[n]?
  | [], _ => by simp [lookL]
  | x :: _, 0 => rfl
  | _ :: xs, n + 1 => by simp [lookL, lookL_eq xs n]
theorem rho_base {a : Act} {e : Env} {t : Nat} {v : Value} (h : look e t = none) (hb : lookL a.tmps.toList t = some v) : rhoE a e (.tmp t) = v := by
  rw [lookL_eq] at hb
  have hb' : a.tmps[t]? = some v := by simpa using hb
  simp [rhoE, h, hb']
theorem rho_const {a : Act} {e : Env} {v : Value} : rhoE a e (.const v) = v := rfl
/-- A frame's row with what has come since. -/
def setsL : List Value → Nat → Env → List Value
  | [], _, _ => []
  | x :: xs, i, e => match look e i with
    | some v => v :: setsL xs (i + 1) e
    | none => x :: setsL xs (i + 1) e
theorem setsL_get : ∀ (l : List Value) (i : Nat) (e : Env) (n : Nat), (setsL l i e)[n]? = (l[n]?).map fun x => (look e (i + n)).getD x
  | [], _, _, _ => by simp [setsL]
  | x :: xs, i, e, n => by
    unfold setsL
    cases n with
    | zero => cases look e i <;> simp
    | succ n =>
      have := setsL_get xs (i + 1) e n
      rw [show i + 1 + n = i + (n + 1) by omega] at this
      cases h : look e i <;> simp [this]
theorem withEnv_get (a : Act) (t : Nat) : ∀ (e : Env), (withEnv a e).tmps[t]? = (a.tmps[t]?).map fun x => (look e t).getD x
  | [] => by simp [withEnv, look]
  | (d, v) :: e => by
    simp only [withEnv, Act.put, look]
    cases hb : Nat.beq d t with
    | true =>
      have := Nat.eq_of_beq_eq_true hb
      subst this
      rw [Array.getElem?_setIfInBounds, if_pos rfl, withEnv_size]
      by_cases h : d < a.tmps.size
      · simp [h]
      · rw [if_neg h, Array.getElem?_eq_none (by omega)]; rfl
    | false =>
      have hne : d ≠ t := fun e => by subst e; simp [Nat.beq_refl] at hb
      rw [Array.getElem?_setIfInBounds_ne hne]
      exact withEnv_get a t e
theorem withEnv_defers (a : Act) : ∀ (e : Env), (withEnv a e).defers = a.defers
  | [] => rfl
  | (d, v) :: e => by simp [withEnv, Act.put, withEnv_defers a e]
theorem withEnv_norm {l l' : List Value} {d : List Deferred} {e : Env} (hl : setsL l 0 e = l') : withEnv ⟨l.toArray, d⟩ e = ⟨l'.toArray, d⟩ := by
  have h1 : (withEnv ⟨l.toArray, d⟩ e).tmps = l'.toArray := by
    apply Array.ext_getElem?
    intro t
    rw [withEnv_get, ← hl]
    simp [setsL_get]
  have h2 := withEnv_defers ⟨l.toArray, d⟩ e
  cases h : withEnv ⟨l.toArray, d⟩ e
  rw [h] at h1 h2
  simp only at h1 h2
  rw [h1, h2]
theorem wpList_norm {P : Program} {ops : Array Oper} {Q : Exit → Act → World → Prop} {rest : List Oper} {w : World} {l l' : List Value} {d : List Deferred} {e : Env} (hl : setsL l 0 e = l')
    (h : wpList P ops Q rest ⟨l'.toArray, d⟩ w) : wpList P ops Q rest (withEnv ⟨l.toArray, d⟩ e) w := by rw [withEnv_norm hl]; exact h
def pushE : Option Tmp → Value → Env → Env
  | some d, v, e => (d, v) :: e
  | none, _, e => e
section
variable {P : Program} {ops : Array Oper} {w : World}
/-- Operations that read, one behind the other. -/
def stillE (P : Program) (w : World) (a : Act) (fin : Env → Prop) : List Oper → Env → Prop
  | [], e => fin e
  | o :: rest, e => o.guard = none ∧ ∃ v, (((execOp (rhoE a e) o).run P w = .ok (.value v) w) ∨ ∃ f args, (execOp (rhoE a e) o).run P w = .ok (.enter f args) w ∧ Calls P f args w (fun e' w' => e' = .returned v ∧ w' = w)) ∧ stillE P w a fin rest (pushE o.dst v e)
theorem still_of_E {a : Act} {Q : Act → Prop} : ∀ (l : List Oper) (e : Env), (∀ p ∈ e, p.1 < a.tmps.size) → (l.all (fun o => match o.dst with | some d => decide (d < a.tmps.size) | none => true) = true) →
    stillE P w a (fun e => Q (withEnv a e)) l e → wpStill P ops w Q l (withEnv a e)
  | [], e, _, _, h => h
  | o :: l, e, he, hl, h => by
    obtain ⟨hg, v, hr, hrest⟩ := h
    simp only [List.all_cons, Bool.and_eq_true] at hl
    have hput : (withEnv a e).put o.dst v = withEnv a (pushE o.dst v e) := by cases o.dst <;> rfl
    have ih := still_of_E (Q := Q) l (pushE o.dst v e) (by
      cases hd : o.dst with
      | none => exact he
      | some d =>
        intro p hp
        simp only [pushE, List.mem_cons] at hp
        rcases hp with rfl | hp
        · have := hl.1; rw [hd] at this; simpa using this
        · exact he p hp) hl.2 hrest
    simp only [wpStill, Region.wanted, hg, if_true, Oper.still, eval_withEnv a e he]
    rcases hr with hr | ⟨f, args, hr, hc⟩
    · rw [hr]; exact ⟨rfl, hput ▸ ih⟩
    · rw [hr]; exact ⟨rfl, v, hc, hput ▸ ih⟩
/-- A region that draws: all but the last operations only read. -/
theorem wp_region_T {id : Nat} {Q : Exit → Act → World → Prop} {a : Act} {l : List Oper} (n : Nat) (hm : P.follows .mixedOrders = true) (hB : Region.lexTailB .any l.toArray n = true)
    (hsz : (l.take n).all (fun o => match o.dst with | some d => decide (d < a.tmps.size) | none => true) = true)
    (h : stillE P w.drew a (fun e => wpList P l.toArray Q (l.drop n) (withEnv a e) w.drew) (l.take n) []) : (Code.region id l.toArray true).wp P Q a w :=
  wp_region_still_tail n hm hB (still_of_E (a := a) (l.take n) [] (fun _ h => by cases h) hsz h)
section
variable {a : Act} {fin : Env → Prop} {rest : List Oper} {e : Env} {d : Nat} {op : Op} {ty : TypeId} {pos : String} {aft : Array Edge}
theorem E_nil (h : fin e) : stillE P w a fin [] e := h
theorem E_cons {v : Value} (hr : (execOp (rhoE a e) ⟨some d, op, ty, pos, aft, none⟩).run P w = .ok (.value v) w) (h : stillE P w a fin rest ((d, v) :: e)) :
    stillE P w a fin (⟨some d, op, ty, pos, aft, none⟩ :: rest) e := ⟨rfl, v, .inl hr, h⟩
theorem E_call {v : Value} {f : FuncId} {args : Array Value} (hr : (execOp (rhoE a e) ⟨some d, op, ty, pos, aft, none⟩).run P w = .ok (.enter f args) w)
    (hc : Calls P f args w (fun e' w' => e' = .returned v ∧ w' = w)) (h : stillE P w a fin rest ((d, v) :: e)) :
    stillE P w a fin (⟨some d, op, ty, pos, aft, none⟩ :: rest) e := ⟨rfl, v, .inr ⟨f, args, hr, hc⟩, h⟩
end
section
variable {ρ : Operand → Value} {d : Option Tmp} {ty t t' : TypeId} {pos : String} {aft : Array Edge} {g : Option (Nat × Bool)} {x y : Operand}
theorem r_move {v : Value} (hx : ρ x = v) : (execOp ρ ⟨d, .move x, ty, pos, aft, g⟩).run P w = .ok (.value v) w := by subst hx; rfl
theorem r_assign {v : Value} (hx : ρ x = v) : (execOp ρ ⟨d, .assign x, ty, pos, aft, g⟩).run P w = .ok (.value v) w := by subst hx; rfl
theorem r_bin {op : BinOp} {u v r : Value} (hx : ρ x = u) (hy : ρ y = v) (hg : eqGuard op t x y u v = pure ()) (hr : (binOp op t u v).run P w = .ok r w) :
    (execOp ρ ⟨d, .binOp op t x y t', ty, pos, aft, g⟩).run P w = .ok (.value r) w := by
  simp [execOp, hx, hy, hg, hr]
theorem r_addW {a b : UInt32} (hx : ρ x = W a) (hy : ρ y = W b) : (execOp ρ ⟨d, .binOp .add t x y t', ty, pos, aft, g⟩).run P w = .ok (.value (W (a + b))) w :=
  r_bin hx hy rfl (by rw [binOp_add_W]; rfl)
theorem r_subW {a b : UInt32} (hx : ρ x = W a) (hy : ρ y = W b) : (execOp ρ ⟨d, .binOp .sub t x y t', ty, pos, aft, g⟩).run P w = .ok (.value (W (a - b))) w :=
  r_bin hx hy rfl (by rw [binOp_sub_W]; rfl)
theorem r_xorW {a b : UInt32} (hx : ρ x = W a) (hy : ρ y = W b) : (execOp ρ ⟨d, .binOp .xor t x y t', ty, pos, aft, g⟩).run P w = .ok (.value (W (a ^^^ b))) w :=
  r_bin hx hy rfl (by rw [binOp_xor_W]; rfl)
theorem r_orW {a b : UInt32} (hx : ρ x = W a) (hy : ρ y = W b) : (execOp ρ ⟨d, .binOp .or t x y t', ty, pos, aft, g⟩).run P w = .ok (.value (W (a ||| b))) w :=
  r_bin hx hy rfl (by rw [binOp_or_W]; rfl)
theorem r_xorB {a b : UInt8} (hx : ρ x = B a) (hy : ρ y = B b) : (execOp ρ ⟨d, .binOp .xor t x y t', ty, pos, aft, g⟩).run P w = .ok (.value (B (a ^^^ b))) w :=
  r_bin hx hy rfl (by rw [binOp_xor_B]; rfl)
theorem r_orB {a b : UInt8} (hx : ρ x = B a) (hy : ρ y = B b) : (execOp ρ ⟨d, .binOp .or t x y t', ty, pos, aft, g⟩).run P w = .ok (.value (B (a ||| b))) w :=
  r_bin hx hy rfl (by rw [binOp_or_B]; rfl)
theorem r_shlW {a : UInt32} {k : IntKind} {n : Int} (hx : ρ x = W a) (hy : ρ y = .int k n) (h0 : 0 ≤ n ∧ n ≤ 32) : (execOp ρ ⟨d, .binOp .shl t x y t', ty, pos, aft, g⟩).run P w = .ok (.value (W (shl a n.toNat))) w :=
  r_bin hx hy rfl (by rw [binOp_shl_W _ _ _ _ h0.1 h0.2]; rfl)
theorem r_shrW {a : UInt32} {k : IntKind} {n : Int} (hx : ρ x = W a) (hy : ρ y = .int k n) (h0 : 0 ≤ n ∧ n ≤ 32) : (execOp ρ ⟨d, .binOp .shr t x y t', ty, pos, aft, g⟩).run P w = .ok (.value (W (shr a n.toNat))) w :=
  r_bin hx hy rfl (by rw [binOp_shr_W _ _ _ _ h0.1 h0.2]; rfl)
theorem r_addI {a b c : Int} (hx : ρ x = .int .i64 a) (hy : ρ y = .int .i64 b) (hc : a + b = c ∧ -9223372036854775808 ≤ c ∧ c ≤ 9223372036854775807) : (execOp ρ ⟨d, .binOp .add t x y t', ty, pos, aft, g⟩).run P w = .ok (.value (.int .i64 c)) w :=
  r_bin hx hy rfl (by rw [binOp_add]; simp only [Op.intArith, IntKind.wrap_i64]; obtain ⟨rfl, h1, h2⟩ := hc; rw [show (a + b + 9223372036854775808) % 18446744073709551616 - 9223372036854775808 = a + b by omega]; rfl)
theorem r_subI {a b c : Int} (hx : ρ x = .int .i64 a) (hy : ρ y = .int .i64 b) (hc : a - b = c ∧ -9223372036854775808 ≤ c ∧ c ≤ 9223372036854775807) : (execOp ρ ⟨d, .binOp .sub t x y t', ty, pos, aft, g⟩).run P w = .ok (.value (.int .i64 c)) w :=
  r_bin hx hy rfl (by rw [binOp_sub]; simp only [Op.intArith, IntKind.wrap_i64]; obtain ⟨rfl, h1, h2⟩ := hc; rw [show (a - b + 9223372036854775808) % 18446744073709551616 - 9223372036854775808 = a - b by omega]; rfl)
theorem r_mulI {a b c : Int} (hx : ρ x = .int .i64 a) (hy : ρ y = .int .i64 b) (hc : a * b = c ∧ -9223372036854775808 ≤ c ∧ c ≤ 9223372036854775807) : (execOp ρ ⟨d, .binOp .mul t x y t', ty, pos, aft, g⟩).run P w = .ok (.value (.int .i64 c)) w :=
  r_bin hx hy rfl (by rw [binOp_mul]; simp only [Op.intArith, IntKind.wrap_i64]; obtain ⟨rfl, h1, h2⟩ := hc; generalize a * b = c at *; rw [show (c + 9223372036854775808) % 18446744073709551616 - 9223372036854775808 = c by omega]; rfl)
theorem r_nilCheck {p : Addr} (hx : ρ x = .pointer (some p)) : (execOp ρ ⟨d, .nilCheck x, ty, pos, aft, g⟩).run P w = .ok (.value (.pointer (some p))) w := by
  simp [execOp, hx]
/-- The place of a field. -/
def fieldOff (P : Program) (t : TypeId) (f : Nat) : Option Nat :=
  match P.underlying t with
  | some (.struct fs) => (fs[f]?).bind fun x => match P.info? x.type with | some i => if i.size = 0 then none else some x.offset | none => none
  | _ => none
theorem r_fieldAddr {b o k : Nat} {f : Nat} (hx : ρ x = .pointer (some ⟨b, o, none⟩)) (hf : fieldOff P t f = some k) : (execOp ρ ⟨d, .fieldAddr t x f, ty, pos, aft, g⟩).run P w = .ok (.value (.pointer (some ⟨b, o + k, none⟩))) w := by
  unfold fieldOff at hf
  cases hu : P.underlying t with
  | none => simp [hu] at hf
  | some dsc =>
    cases dsc <;> simp [hu] at hf
    rename_i fs
    cases hx' : fs[f]? with
    | none => simp [hx'] at hf
    | some x' =>
      simp [hx'] at hf
      cases hi : P.info? x'.type with
      | none => simp [hi] at hf
      | some i =>
        simp [hi] at hf
        simp [execOp, hx, Instr.fieldAt, run_underlying hu, hx', Instr.sureAddr, fieldPlace, sizeOf, typeInfo, hi, hf.1, hf.2, Addr.add_lit]
/-- An array's length and element, of one cell each. -/
def arrOf (P : Program) (t : TypeId) : Option Nat :=
  match P.underlying t with
  | some (.array n e) => match P.info? e with | some i => if i.size = 1 then some n else none | none => none
  | _ => none
theorem r_indexArr {b o n : Nat} {k : IntKind} {i : Int} {o' : Nat} (hx : ρ x = .pointer (some ⟨b, o, none⟩)) (hy : ρ y = .int k i) (ha : arrOf P t = some n) (hi : 0 ≤ i ∧ i < n ∧ o' = o + i.toNat) :
    (execOp ρ ⟨d, .indexAddr t x y, ty, pos, aft, g⟩).run P w = .ok (.value (.pointer (some ⟨b, o', none⟩))) w := by
  unfold arrOf at ha
  cases hu : P.underlying t with
  | none => simp [hu] at ha
  | some dsc =>
    cases dsc <;> simp [hu] at ha
    rename_i len e
    cases hinf : P.info? e with
    | none => simp [hinf] at ha
    | some inf =>
      simp [hinf] at ha
      obtain ⟨h1, rfl⟩ := ha
      obtain ⟨h2, h3, rfl⟩ := hi
      simp [execOp, hx, hy, Instr.indexAt, run_underlying hu, asIntOf, Instr.sureAddr, sizeOf, typeInfo, hinf, h1, h2, h3, Addr.add_lit]
/-- A slice type whose elements have one cell. -/
def slOf (P : Program) (t : TypeId) : Bool :=
  match P.underlying t with
  | some (.slice e) => match P.info? e with | some i => i.size == 1 | none => false
  | _ => false
theorem r_indexSl {b o len cap : Nat} {k : IntKind} {i : Int} {o' : Nat} (hx : ρ x = .slice (some ⟨b, o, none⟩) len cap) (hy : ρ y = .int k i) (ha : slOf P t = true) (hi : 0 ≤ i ∧ i < len ∧ o' = o + i.toNat) :
    (execOp ρ ⟨d, .indexAddr t x y, ty, pos, aft, g⟩).run P w = .ok (.value (.pointer (some ⟨b, o', none⟩))) w := by
  unfold slOf at ha
  cases hu : P.underlying t with
  | none => simp [hu] at ha
  | some dsc =>
    cases dsc <;> simp [hu] at ha
    rename_i e
    cases hinf : P.info? e with
    | none => simp [hinf] at ha
    | some inf =>
      simp [hinf] at ha
      obtain ⟨h2, h3, rfl⟩ := hi
      simp [execOp, hx, hy, Instr.indexAt, run_underlying hu, asIntOf, sizeOf, typeInfo, hinf, ha, h2, h3, Addr.add_lit]
/-- A type of one cell. -/
def oneT (P : Program) (t : TypeId) : Bool :=
  match P.underlying t with
  | some (.struct _) | some (.array _ _) | none => false
  | some _ => true
theorem r_load {p : Addr} {v : Value} (hx : ρ x = .pointer (some p)) (ht : oneT P t = true) (hc : w.cell? p = some v) : (execOp ρ ⟨d, .load t x, ty, pos, aft, g⟩).run P w = .ok (.value v) w := by
  unfold oneT at ht
  cases hu : P.underlying t with
  | none => simp [hu] at ht
  | some dsc =>
    have hagg : (isAgg t).run P w = .ok false w := by
      unfold isAgg
      rw [Sem.run_bind, run_underlying hu w]
      cases dsc <;> simp_all
    simp [execOp, hx, Instr.loadAt, Instr.sureAddr, loadVar, hagg, run_load, hc]
theorem r_lenSl {p : Option Addr} {n c : Nat} {e : TypeId} (hx : ρ x = .slice p n c) (ht : P.underlying t = some (.slice e)) : (execOp ρ ⟨d, .call { callee := .builtin .len, args := #[x], argTypes := #[t] }, ty, pos, aft, g⟩).run P w = .ok (.value (.int .i64 n)) w := by
  simp [execOp, resolve, invoke, builtin, hx, Builtin.len_, run_underlying ht, goInt]
theorem r_convBW {a : UInt8} {s : TypeDesc} (hx : ρ x = B a) (hs : P.underlying t = some s) (hd : P.underlying t' = some (.int .u32)) : (execOp ρ ⟨d, .convert t t' x, ty, pos, aft, g⟩).run P w = .ok (.value (W a.toUInt32)) w := by
  simp only [execOp, hx, Sem.run_bind, run_convert_B_u32 w t t' a (by rw [hs]; rfl) hd, Result.andThen_ok, Sem.run_pure]
def plainFn (P : Program) (f : FuncId) : Bool := match P.funcs[f]? with | some fn => !(fn.name == "runtime.NumGoroutine") && fn.body.isSome | none => false
theorem r_call {f : FuncId} {args : Array Operand} {ats : Array TypeId} {vs : Array Value} (hf : plainFn P f = true) (ha : args.map ρ = vs) (hρ : ρ (.func f) = .func (.func f) #[] #[]) :
    (execOp ρ ⟨d, .call { callee := .value (.func f), args := args, argTypes := ats }, ty, pos, aft, g⟩).run P w = .ok (.enter f vs) w := by
  unfold plainFn at hf
  cases hfn : P.funcs[f]? with
  | none => simp [hfn] at hf
  | some fn =>
    simp [hfn] at hf
    obtain ⟨hn, hb⟩ := hf
    have hb' : ¬ fn.body = none := by intro h; rw [h] at hb; simp at hb
    simp [execOp, resolve, hρ, Deferred.ofValue, invoke, callFunc, run_program, hfn, hn, hb', ha]
end
end
section
variable {P : Program} {w : World} {a : Act} {fin : Env → Prop} {rest : List Oper} {e : Env} {d : Nat} {ty t t' : TypeId} {pos : String} {aft : Array Edge} {x y : Operand}
theorem E_move {v : Value} (hx : rhoE a e x = v) (h : stillE P w a fin rest ((d, v) :: e)) :
    stillE P w a fin (⟨some d, .move x, ty, pos, aft, none⟩ :: rest) e := E_cons (r_move hx) h
theorem E_assign {v : Value} (hx : rhoE a e x = v) (h : stillE P w a fin rest ((d, v) :: e)) :
    stillE P w a fin (⟨some d, .assign x, ty, pos, aft, none⟩ :: rest) e := E_cons (r_assign hx) h
theorem E_addW {a' b' : UInt32} (hx : rhoE a e x = W a') (hy : rhoE a e y = W b') (h : stillE P w a fin rest ((d, (W (a' + b'))) :: e)) :
    stillE P w a fin (⟨some d, .binOp .add t x y t', ty, pos, aft, none⟩ :: rest) e := E_cons (r_addW hx hy) h
theorem E_subW {a' b' : UInt32} (hx : rhoE a e x = W a') (hy : rhoE a e y = W b') (h : stillE P w a fin rest ((d, (W (a' - b'))) :: e)) :
    stillE P w a fin (⟨some d, .binOp .sub t x y t', ty, pos, aft, none⟩ :: rest) e := E_cons (r_subW hx hy) h
theorem E_xorW {a' b' : UInt32} (hx : rhoE a e x = W a') (hy : rhoE a e y = W b') (h : stillE P w a fin rest ((d, (W (a' ^^^ b'))) :: e)) :
    stillE P w a fin (⟨some d, .binOp .xor t x y t', ty, pos, aft, none⟩ :: rest) e := E_cons (r_xorW hx hy) h
theorem E_orW {a' b' : UInt32} (hx : rhoE a e x = W a') (hy : rhoE a e y = W b') (h : stillE P w a fin rest ((d, (W (a' ||| b'))) :: e)) :
    stillE P w a fin (⟨some d, .binOp .or t x y t', ty, pos, aft, none⟩ :: rest) e := E_cons (r_orW hx hy) h
theorem E_xorB {a' b' : UInt8} (hx : rhoE a e x = B a') (hy : rhoE a e y = B b') (h : stillE P w a fin rest ((d, (B (a' ^^^ b'))) :: e)) :
    stillE P w a fin (⟨some d, .binOp .xor t x y t', ty, pos, aft, none⟩ :: rest) e := E_cons (r_xorB hx hy) h
theorem E_orB {a' b' : UInt8} (hx : rhoE a e x = B a') (hy : rhoE a e y = B b') (h : stillE P w a fin rest ((d, (B (a' ||| b'))) :: e)) :
    stillE P w a fin (⟨some d, .binOp .or t x y t', ty, pos, aft, none⟩ :: rest) e := E_cons (r_orB hx hy) h
theorem E_shlW {a' : UInt32} {k : IntKind} {n : Int} (hx : rhoE a e x = W a') (hy : rhoE a e y = .int k n) (h0 : 0 ≤ n ∧ n ≤ 32) (h : stillE P w a fin rest ((d, (W (shl a' n.toNat))) :: e)) :
    stillE P w a fin (⟨some d, .binOp .shl t x y t', ty, pos, aft, none⟩ :: rest) e := E_cons (r_shlW hx hy h0) h
theorem E_shrW {a' : UInt32} {k : IntKind} {n : Int} (hx : rhoE a e x = W a') (hy : rhoE a e y = .int k n) (h0 : 0 ≤ n ∧ n ≤ 32) (h : stillE P w a fin rest ((d, (W (shr a' n.toNat))) :: e)) :
    stillE P w a fin (⟨some d, .binOp .shr t x y t', ty, pos, aft, none⟩ :: rest) e := E_cons (r_shrW hx hy h0) h
theorem E_addI {a' b' c : Int} (hx : rhoE a e x = .int .i64 a') (hy : rhoE a e y = .int .i64 b') (hc : a' + b' = c ∧ -9223372036854775808 ≤ c ∧ c ≤ 9223372036854775807) (h : stillE P w a fin rest ((d, (.int .i64 c)) :: e)) :
    stillE P w a fin (⟨some d, .binOp .add t x y t', ty, pos, aft, none⟩ :: rest) e := E_cons (r_addI hx hy hc) h
theorem E_subI {a' b' c : Int} (hx : rhoE a e x = .int .i64 a') (hy : rhoE a e y = .int .i64 b') (hc : a' - b' = c ∧ -9223372036854775808 ≤ c ∧ c ≤ 9223372036854775807) (h : stillE P w a fin rest ((d, (.int .i64 c)) :: e)) :
    stillE P w a fin (⟨some d, .binOp .sub t x y t', ty, pos, aft, none⟩ :: rest) e := E_cons (r_subI hx hy hc) h
theorem E_mulI {a' b' c : Int} (hx : rhoE a e x = .int .i64 a') (hy : rhoE a e y = .int .i64 b') (hc : a' * b' = c ∧ -9223372036854775808 ≤ c ∧ c ≤ 9223372036854775807) (h : stillE P w a fin rest ((d, (.int .i64 c)) :: e)) :
    stillE P w a fin (⟨some d, .binOp .mul t x y t', ty, pos, aft, none⟩ :: rest) e := E_cons (r_mulI hx hy hc) h
theorem E_nilCheck {p : Addr} (hx : rhoE a e x = .pointer (some p)) (h : stillE P w a fin rest ((d, (.pointer (some p))) :: e)) :
    stillE P w a fin (⟨some d, .nilCheck x, ty, pos, aft, none⟩ :: rest) e := E_cons (r_nilCheck hx) h
theorem E_fieldAddr {b o k f : Nat} (hx : rhoE a e x = .pointer (some ⟨b, o, none⟩)) (hf : fieldOff P t f = some k) (h : stillE P w a fin rest ((d, (.pointer (some ⟨b, o + k, none⟩))) :: e)) :
    stillE P w a fin (⟨some d, .fieldAddr t x f, ty, pos, aft, none⟩ :: rest) e := E_cons (r_fieldAddr hx hf) h
theorem E_indexArr {b o n : Nat} {k : IntKind} {i : Int} {o' : Nat} (hx : rhoE a e x = .pointer (some ⟨b, o, none⟩)) (hy : rhoE a e y = .int k i) (ha : arrOf P t = some n) (hi : 0 ≤ i ∧ i < n ∧ o' = o + i.toNat) (h : stillE P w a fin rest ((d, (.pointer (some ⟨b, o', none⟩))) :: e)) :
    stillE P w a fin (⟨some d, .indexAddr t x y, ty, pos, aft, none⟩ :: rest) e := E_cons (r_indexArr hx hy ha hi) h
theorem E_indexSl {b o len cap : Nat} {k : IntKind} {i : Int} {o' : Nat} (hx : rhoE a e x = .slice (some ⟨b, o, none⟩) len cap) (hy : rhoE a e y = .int k i) (ha : slOf P t = true) (hi : 0 ≤ i ∧ i < len ∧ o' = o + i.toNat) (h : stillE P w a fin rest ((d, (.pointer (some ⟨b, o', none⟩))) :: e)) :
    stillE P w a fin (⟨some d, .indexAddr t x y, ty, pos, aft, none⟩ :: rest) e := E_cons (r_indexSl hx hy ha hi) h
theorem E_load {p : Addr} {v : Value} (hx : rhoE a e x = .pointer (some p)) (ht : oneT P t = true) (hc : w.cell? p = some v) (h : stillE P w a fin rest ((d, v) :: e)) :
    stillE P w a fin (⟨some d, .load t x, ty, pos, aft, none⟩ :: rest) e := E_cons (r_load hx ht hc) h
theorem E_lenSl {p : Option Addr} {n c : Nat} {el : TypeId} (hx : rhoE a e x = .slice p n c) (ht : P.underlying t = some (.slice el)) (h : stillE P w a fin rest ((d, (.int .i64 n)) :: e)) :
    stillE P w a fin (⟨some d, .call { callee := .builtin .len, args := #[x], argTypes := #[t] }, ty, pos, aft, none⟩ :: rest) e := E_cons (r_lenSl hx ht) h
theorem E_convBW {a' : UInt8} {s : TypeDesc} (hx : rhoE a e x = B a') (hs : P.underlying t = some s) (hd : P.underlying t' = some (.int .u32)) (h : stillE P w a fin rest ((d, (W a'.toUInt32)) :: e)) :
    stillE P w a fin (⟨some d, .convert t t' x, ty, pos, aft, none⟩ :: rest) e := E_cons (r_convBW hx hs hd) h
theorem E_callf {v : Value} {f : FuncId} {args : Array Operand} {ats : Array TypeId} {vs : Array Value} (hf : plainFn P f = true) (ha : args.map (rhoE a e) = vs)
    (hc : Calls P f vs w (fun e' w' => e' = .returned v ∧ w' = w)) (h : stillE P w a fin rest ((d, v) :: e)) :
    stillE P w a fin (⟨some d, .call { callee := .value (.func f), args := args, argTypes := ats }, ty, pos, aft, none⟩ :: rest) e := E_call (r_call hf ha rfl) hc h
end
attribute [irreducible] stillE
end Go.Sp
