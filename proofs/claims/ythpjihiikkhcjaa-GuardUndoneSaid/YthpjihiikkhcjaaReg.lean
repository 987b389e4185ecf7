/-
  A part of the proofs of this seat: laws of the walk, or contracts of the functions that the statements reach. No conditions but those that each theorem names.
-/
import Derived.Still
import Derived.WalkKit
namespace Go.Sp
open Go.RowKit
/-- What one operation's run is asked to give: a value and a world. -/
def Gives (P : Program) (post : Value → World → Prop) : Result Next → Prop
  | .ok (.value v) w => post v w
  | .ok .skip w => post undef w
  | .ok (.enter f args) w => Calls P f args w fun e w' => ∃ v, e = .returned v ∧ post v w'
  | _ => False
section
variable {P : Program} {post : Value → World → Prop} {w : World}
@[go_sem] theorem Gives_value (v : Value) : Gives P post (.ok (.value v) w) = post v w := rfl
@[go_sem] theorem Gives_skip : Gives P post (.ok .skip w) = post undef w := rfl
@[go_sem] theorem Gives_enter (f : FuncId) (args : Array Value) : Gives P post (.ok (.enter f args) w) = Calls P f args w (fun e w' => ∃ v, e = .returned v ∧ post v w') := rfl
theorem Gives.mono {post' : Value → World → Prop} {r : Result Next} (h : Gives P post r) (hp : ∀ v w, post v w → post' v w) : Gives P post' r := by
  cases r with
  | ok n w' =>
    cases n <;> simp only [Gives] at h ⊢
    case value v => exact hp _ _ h
    case skip => exact hp _ _ h
    case enter f args => exact h.mono fun e w'' ⟨v, he, hv⟩ => ⟨v, he, hp _ _ hv⟩
  | halt x w' => exact h.elim
theorem wp_of_gives {o : Oper} {a : Act} {K : Act → World → Prop} {Q : Exit → Act → World → Prop}
    (h : Gives P (fun v w' => K (a.put o.dst v) w') ((execOp a.eval o).run P w)) : o.wp P a w K Q := by
  unfold Oper.wp
  generalize (execOp a.eval o).run P w = r at *
  cases r with
  | ok n w' =>
    cases n <;> simp only [Gives, Oper.upon] at h ⊢
    case value v => exact h
    case skip => exact h
    case enter f args => exact h.mono fun e w'' ⟨v, he, hv⟩ => by subst he; exact hv
  | halt x w' => exact h.elim
end
/-- The frame behind the first operations, their values by number. -/
def putsV (x : Nat → Value) : List Oper → Nat → Act → Act
  | [], _, a => a
  | o :: rest, k, a => putsV x rest (k + 1) (a.put o.dst (x k))
/-- The numbers of the operations that write what this one looks at. -/
def feeds (ops : Array Oper) (o : Oper) : List Nat :=
  (List.range ops.size).filter fun j => match ops[j]? with
    | some p => (match p.dst with | some d => (o.looksAt ops).contains d | none => false)
    | none => false
def edgeOn (o : Oper) (j : Nat) : Bool := o.after.any fun e => Region.binds .any e && e.on == j
/-- The look that lets any order serve. -/
def okV (ops : Array Oper) : Bool :=
  Region.noSelect ops &&
  (List.range ops.size).all fun i => match ops[i]? with
    | none => true
    | some o =>
      o.after.all (fun e => !Region.binds .any e || decide (e.on < i)) &&
      (List.range ops.size).all fun j => match ops[j]? with
        | none => true
        | some p => match p.dst with
          | none => true
          | some d =>
            (i == j || o.dst != some d) &&
            (!(o.looksAt ops).contains d || (decide (j < i) && edgeOn o j) || (decide (i ≤ j) && (i == j || edgeOn p i)))
/-- One walk in the text's order, each operation asked in whatever world has come. -/
def stepsV (P : Program) (ops : Array Oper) (R : World → World → Prop) (w : World) (V : Nat → Value → World → Prop) (x : Nat → Value) (fin : Act → World → Prop) : List Oper → Nat → Act → Prop
  | [], _, a => ∀ w1, R w w1 → (∀ j, j < ops.size → V j (x j) w1) → fin a w1
  | o :: rest, i, a =>
    (∀ w1, R w w1 → (∀ j ∈ feeds ops o, j < i → V j (x j) w1) →
      if Region.wanted o (yielded ops a.tmps) then Gives P (fun v w2 => R w1 w2 ∧ V i v w2) ((execOp a.eval o).run P w1) else V i undef w1) ∧
    stepsV P ops R w V x fin rest (i + 1) (a.put o.dst (x i))

theorem countP_lt {p q : Nat → Bool} {i : Nat} : ∀ {l : List Nat}, (∀ x ∈ l, q x = true → p x = true) → i ∈ l → p i = true → q i = false → l.countP q < l.countP p
  | [], _, hi, _, _ => by cases hi
  | x :: l, hpq, hi, hp, hq => by
    have hle : l.countP q ≤ l.countP p := List.countP_mono_left fun y hy => hpq y (List.mem_cons_of_mem _ hy)
    by_cases hx : x = i
    · subst hx
      rw [List.countP_cons_of_neg (by simp [hq]), List.countP_cons_of_pos hp]; omega
    · have hi' : i ∈ l := by
        rcases List.mem_cons.1 hi with h | h
        · exact absurd h.symm hx
        · exact h
      have ih := countP_lt (fun y hy => hpq y (List.mem_cons_of_mem _ hy)) hi' hp hq
      by_cases hqx : q x = true
      · rw [List.countP_cons_of_pos hqx, List.countP_cons_of_pos (hpq x (List.mem_cons_self ..) hqx)]; omega
      · rw [List.countP_cons_of_neg hqx, List.countP_cons]; omega
theorem put_tmps (a : Act) (d : Option Tmp) (v : Value) (t : Nat) : (a.put d v).tmps[t]? = if d = some t then (if t < a.tmps.size then some v else none) else a.tmps[t]? := by
  cases d with
  | none => simp [Act.put]
  | some d =>
    by_cases h : d = t
    · subst h; simp [Act.put, Array.getElem?_setIfInBounds]
    · simp [Act.put, h]
theorem put_size (a : Act) (d : Option Tmp) (v : Value) : (a.put d v).tmps.size = a.tmps.size := by cases d <;> simp [Act.put]
theorem put_defers (a : Act) (d : Option Tmp) (v : Value) : (a.put d v).defers = a.defers := by cases d <;> rfl
theorem putsV_size (x : Nat → Value) : ∀ (l : List Oper) (k : Nat) (a : Act), (putsV x l k a).tmps.size = a.tmps.size
  | [], _, _ => rfl
  | o :: l, k, a => by rw [putsV, putsV_size x l, put_size]
theorem putsV_defers (x : Nat → Value) : ∀ (l : List Oper) (k : Nat) (a : Act), (putsV x l k a).defers = a.defers
  | [], _, _ => rfl
  | o :: l, k, a => by rw [putsV, putsV_defers x l, put_defers]
theorem putsV_other (x : Nat → Value) (t : Nat) : ∀ (l : List Oper) (k : Nat) (a : Act), (∀ o ∈ l, o.dst ≠ some t) → (putsV x l k a).tmps[t]? = a.tmps[t]?
  | [], _, _, _ => rfl
  | o :: l, k, a, h => by
    rw [putsV, putsV_other x t l _ _ (fun p hp => h p (List.mem_cons_of_mem _ hp)), put_tmps, if_neg (h o (List.mem_cons_self ..))]
theorem putsV_at (x : Nat → Value) (t : Nat) : ∀ (l : List Oper) (k j : Nat) (a : Act) (o : Oper), l[j]? = some o → o.dst = some t →
    (∀ (j' : Nat) (o' : Oper), l[j']? = some o' → o'.dst = some t → j' = j) → (putsV x l k a).tmps[t]? = if t < a.tmps.size then some (x (k + j)) else none
  | [], _, _, _, _, h, _, _ => by simp at h
  | p :: l, k, 0, a, o, h, hd, hu => by
    simp at h; subst h
    rw [putsV, putsV_other x t l _ _ (fun q hq hqt => by
      obtain ⟨i, hi⟩ := List.getElem?_of_mem hq
      have := hu (i + 1) q (by simpa using hi) hqt
      omega), put_tmps, if_pos hd]; rfl
  | p :: l, k, j + 1, a, o, h, hd, hu => by
    have hp : p.dst ≠ some t := fun e => by have := hu 0 p rfl e; omega
    rw [putsV, putsV_at x t l (k + 1) j _ o (by simpa using h) hd (fun j' o' h' hd' => by have := hu (j' + 1) o' (by simpa using h') hd'; omega), put_size]
    congr 2; congr 1; omega
section
variable {P : Program} {ops : Array Oper} {R : World → World → Prop} {w : World} {V : Nat → Value → World → Prop} {x : Nat → Value} {fin : Act → World → Prop}
theorem stepsV_split : ∀ (l : List Oper) (k : Nat) (a : Act), stepsV P ops R w V x fin l k a →
    (∀ (j : Nat) (o : Oper), l[j]? = some o → ∀ w1, R w w1 → (∀ i ∈ feeds ops o, i < k + j → V i (x i) w1) →
      if Region.wanted o (yielded ops (putsV x (l.take j) k a).tmps) then Gives P (fun v w2 => R w1 w2 ∧ V (k + j) v w2) ((execOp (putsV x (l.take j) k a).eval o).run P w1) else V (k + j) undef w1) ∧
    (∀ w1, R w w1 → (∀ j, j < ops.size → V j (x j) w1) → fin (putsV x l k a) w1)
  | [], k, a, h => ⟨fun j o h => by simp at h, h⟩
  | p :: l, k, a, h => by
    obtain ⟨h1, h2⟩ := h
    obtain ⟨h3, h4⟩ := stepsV_split l (k + 1) _ h2
    refine ⟨fun j o hj w1 hR hf => ?_, h4⟩
    cases j with
    | zero => simp at hj; subst hj; exact h1 w1 hR hf
    | succ j =>
      have := h3 j o (by simpa using hj) w1 hR (fun i hi hlt => hf i hi (by omega))
      have e : k + 1 + j = k + (j + 1) := by omega
      rw [e] at this
      exact this
end
theorem okV_spec {ops : Array Oper} (h : okV ops = true) :
    Region.noSelect ops = true ∧ ∀ (i : Nat) (o : Oper), ops[i]? = some o →
      (∀ e ∈ o.after, Region.binds .any e = true → e.on < i) ∧
      ∀ (j : Nat) (p : Oper) (d : Tmp), ops[j]? = some p → p.dst = some d →
        (i = j ∨ o.dst ≠ some d) ∧ (d ∈ o.looksAt ops → (j < i ∧ edgeOn o j = true) ∨ (i ≤ j ∧ (i = j ∨ edgeOn p i = true))) := by
  simp only [okV, Bool.and_eq_true, List.all_eq_true, List.mem_range] at h
  refine ⟨h.1, fun i o ho => ?_⟩
  have hi : i < ops.size := (Array.getElem?_eq_some_iff.1 ho).1
  have h2 := h.2 i hi
  simp only [ho, Bool.and_eq_true, List.all_eq_true, List.mem_range] at h2
  refine ⟨fun e he hb => ?_, fun j p d hp hd => ?_⟩
  · have := Array.all_eq_true_iff_forall_mem.1 h2.1 e he
    simpa [hb] using this
  · have h3 := h2.2 j (Array.getElem?_eq_some_iff.1 hp).1
    simp only [hp, hd, Bool.and_eq_true, Bool.or_eq_true, beq_iff_eq, bne_iff_ne, Bool.not_eq_true', decide_eq_true_eq] at h3
    refine ⟨h3.1, fun hm => ?_⟩
    rcases h3.2 with (h4 | h4) | h4
    · exact absurd hm (by simpa using h4)
    · exact .inl h4
    · exact .inr h4
/-- The state of a region on the way. -/
structure InvV (ops : Array Oper) (R : World → World → Prop) (w : World) (V : Nat → Value → World → Prop) (a : Act) (listed : Array Bool) (x : Nat → Value) (a1 : Act) (w1 : World) : Prop where
  lsize : listed.size = ops.size
  reach : R w w1
  down : ∀ (j : Nat) (o : Oper), ops[j]? = some o → listed.getD j false = true → ∀ e ∈ o.after, Region.binds .any e = true → listed.getD e.on false = true
  defers : a1.defers = a.defers
  size : a1.tmps.size = a.tmps.size
  done : ∀ (j : Nat) (o : Oper) (t : Tmp), ops[j]? = some o → o.dst = some t → listed.getD j false = true → a1.tmps[t]? = if t < a.tmps.size then some (x j) else none
  rest : ∀ t : Tmp, (∀ (j : Nat) (o : Oper), ops[j]? = some o → o.dst = some t → listed.getD j false = false) → a1.tmps[t]? = a.tmps[t]?
  facts : ∀ (j : Nat), j < ops.size → listed.getD j false = true → V j (x j) w1
theorem getD_tf {listed : Array Bool} {i n : Nat} (hs : listed.size = n) (hi : i < n) : listed.getD i true = listed.getD i false := by
  have : i < listed.size := by omega
  simp [this]
section
variable {P : Program} {ops : Array Oper} {R : World → World → Prop} {w : World} {V : Nat → Value → World → Prop} {Q : Exit → Act → World → Prop} {a : Act}
theorem InvV.same {listed : Array Bool} {x : Nat → Value} {a1 : Act} {w1 : World} (hok : okV ops = true) (inv : InvV ops R w V a listed x a1 w1)
    {i : Nat} {o : Oper} (ho : ops[i]? = some o) (hi : listed.getD i false = false) (hall : ∀ e ∈ o.after, Region.binds .any e = true → listed.getD e.on false = true) :
    ∀ t ∈ o.looksAt ops, a1.tmps[t]? = (putsV x (ops.toList.take i) 0 a).tmps[t]? := by
  obtain ⟨_, hspec⟩ := okV_spec hok
  intro t ht
  by_cases hw : ∃ (j : Nat) (p : Oper), ops[j]? = some p ∧ p.dst = some t
  · obtain ⟨j, p, hp, hd⟩ := hw
    have hju : ∀ (j' : Nat) (o' : Oper), ops[j']? = some o' → o'.dst = some t → j' = j := fun j' o' h' hd' => by
      rcases ((hspec j' o' h').2 j p t hp hd).1 with h | h
      · exact h
      · exact absurd hd' h
    rcases ((hspec i o ho).2 j p t hp hd).2 ht with ⟨hlt, he⟩ | ⟨hle, he⟩
    · obtain ⟨e, he1, he2⟩ := Array.any_eq_true'.1 he
      simp only [Bool.and_eq_true, beq_iff_eq] at he2
      have hl := hall e he1 he2.1
      rw [he2.2] at hl
      rw [inv.done j p t hp hd hl, putsV_at x t _ 0 j a p (by rw [List.getElem?_take, if_pos hlt]; simpa using hp) hd (fun j' o' h' hd' => by
        rw [List.getElem?_take] at h'
        split at h'
        · exact hju j' o' (by simpa using h') hd'
        · cases h')]
      simp
    · have hjl : listed.getD j false = false := by
        rcases he with rfl | he
        · exact hi
        · obtain ⟨e, he1, he2⟩ := Array.any_eq_true'.1 he
          simp only [Bool.and_eq_true, beq_iff_eq] at he2
          cases hc : listed.getD j false with
          | false => rfl
          | true =>
            have := inv.down j p hp hc e he1 he2.1
            rw [he2.2, hi] at this
            cases this
      rw [inv.rest t (fun j' o' h' hd' => by rw [hju j' o' h' hd']; exact hjl), putsV_other x t _ 0 a (fun q hq hqt => by
        obtain ⟨k, hk⟩ := List.getElem?_of_mem hq
        rw [List.getElem?_take] at hk
        split at hk
        · have := hju k q (by simpa using hk) hqt; omega
        · cases hk)]
  · have hno : ∀ (j : Nat) (p : Oper), ops[j]? = some p → p.dst ≠ some t := fun j p hp hd => hw ⟨j, p, hp, hd⟩
    rw [inv.rest t (fun j' o' h' hd' => absurd hd' (hno j' o' h')), putsV_other x t _ 0 a (fun q hq hqt => by
      obtain ⟨k, hk⟩ := List.getElem?_of_mem hq
      rw [List.getElem?_take] at hk
      split at hk
      · exact hno k q (by simpa using hk) hqt
      · cases hk)]
theorem eval_same {a1 a2 : Act} {o : Oper} (h : ∀ t ∈ o.looksAt ops, a1.tmps[t]? = a2.tmps[t]?) : ∀ y ∈ o.op.operands, a1.eval y = a2.eval y := by
  intro y hy
  cases y with
  | tmp t =>
    have := h t (List.mem_append_left _ (List.mem_filterMap.2 ⟨.tmp t, by simpa using hy, rfl⟩))
    simp [Act.eval, this]
  | _ => rfl
theorem wanted_same {a1 a2 : Act} {o : Oper} (h : ∀ t ∈ o.looksAt ops, a1.tmps[t]? = a2.tmps[t]?) : Region.wanted o (yielded ops a1.tmps) = Region.wanted o (yielded ops a2.tmps) := by
  unfold Region.wanted
  cases hg : o.guard with
  | none => rfl
  | some gw =>
    obtain ⟨g, want⟩ := gw
    have hy : yielded ops a1.tmps g = yielded ops a2.tmps g := by
      unfold yielded
      cases ht : (ops[g]?).bind (·.dst) with
      | none => rfl
      | some t =>
        have := h t (by simp [Oper.looksAt, hg, ht])
        simp [this]
    simp only [hy]

theorem InvV.step {listed : Array Bool} {x : Nat → Value} {a1 : Act} {w1 w2 : World} (hok : okV ops = true)
    (htrans : ∀ a b c, R a b → R b c → R a c) (hmono : ∀ j v u u', R u u' → V j v u → V j v u') (inv : InvV ops R w V a listed x a1 w1)
    {i : Nat} {o : Oper} (ho : ops[i]? = some o) (hi : listed.getD i false = false) (hall : ∀ e ∈ o.after, Region.binds .any e = true → listed.getD e.on false = true)
    {v : Value} (hR : R w1 w2) (hv : V i v w2) :
    InvV ops R w V a (listed.setIfInBounds i true) (fun j => if j = i then v else x j) (a1.put o.dst v) w2 := by
  obtain ⟨_, hspec⟩ := okV_spec hok
  have hio : i < ops.size := (Array.getElem?_eq_some_iff.1 ho).1
  have hset : ∀ j, (listed.setIfInBounds i true).getD j false = true → j = i ∨ (j ≠ i ∧ listed.getD j false = true) := fun j h => by
    by_cases hj : j = i
    · exact .inl hj
    · rw [getD_set_ne false (Ne.symm hj)] at h; exact .inr ⟨hj, h⟩
  refine ⟨by simp [inv.lsize], htrans _ _ _ inv.reach hR, ?_, by rw [put_defers, inv.defers], by rw [put_size, inv.size], ?_, ?_, ?_⟩
  · intro j p hp hl e he hb
    rcases hset j hl with rfl | ⟨_, h⟩
    · rw [ho] at hp; cases hp
      exact getD_set_true (hall e he hb)
    · exact getD_set_true (inv.down j p hp h e he hb)
  · intro j p t hp hd hl
    rw [put_tmps, inv.size]
    rcases hset j hl with rfl | ⟨hne, h⟩
    · rw [ho] at hp; cases hp
      rw [if_pos hd, if_pos rfl]
    · have : o.dst ≠ some t := by
        rcases ((hspec i o ho).2 j p t hp hd).1 with h' | h'
        · exact absurd h'.symm hne
        · exact h'
      rw [if_neg this, if_neg hne]
      exact inv.done j p t hp hd h
  · intro t ht
    have hot : o.dst ≠ some t := fun e => by
      have := ht i o ho e
      rw [Array.getD_eq_getD_getElem?, Array.getElem?_setIfInBounds, if_pos rfl] at this
      simp [inv.lsize, hio] at this
    rw [put_tmps, if_neg hot]
    refine inv.rest t fun j p hp hd => ?_
    have h1 := ht j p hp hd
    cases hc : listed.getD j false with
    | false => rfl
    | true => rw [getD_set_true hc] at h1; cases h1
  · intro j hj hl
    rcases hset j hl with rfl | ⟨hne, h⟩
    · simp only [if_true]; exact hv
    · simp only [if_neg hne]; exact hmono _ _ _ _ hR (inv.facts j hj h)
theorem InvV.all {listed : Array Bool} {x : Nat → Value} {a1 : Act} {w1 : World} (hok : okV ops = true) (inv : InvV ops R w V a listed x a1 w1)
    (hall : ∀ j, j < ops.size → listed.getD j false = true) : a1 = putsV x ops.toList 0 a := by
  obtain ⟨_, hspec⟩ := okV_spec hok
  have ht : a1.tmps = (putsV x ops.toList 0 a).tmps := by
    apply Array.ext_getElem?
    intro t
    by_cases hw : ∃ (j : Nat) (p : Oper), ops[j]? = some p ∧ p.dst = some t
    · obtain ⟨j, p, hp, hd⟩ := hw
      rw [inv.done j p t hp hd (hall j (Array.getElem?_eq_some_iff.1 hp).1), putsV_at x t _ 0 j a p (by simpa using hp) hd (fun j' o' h' hd' => by
        rcases ((hspec j' o' (by simpa using h')).2 j p t hp hd).1 with h | h
        · exact h
        · exact absurd hd' h)]
      simp
    · have hno : ∀ (j : Nat) (p : Oper), ops[j]? = some p → p.dst ≠ some t := fun j p hp hd => hw ⟨j, p, hp, hd⟩
      rw [inv.rest t (fun j' o' h' hd' => absurd hd' (hno j' o' h')), putsV_other x t _ 0 a (fun q hq hqt => by
        obtain ⟨k, hk⟩ := List.getElem?_of_mem hq
        exact hno k q (by simpa using hk) hqt)]
  have hd := inv.defers
  have hd2 := putsV_defers x ops.toList 0 a
  cases a1
  cases hp : putsV x ops.toList 0 a
  rw [hp] at ht hd2
  simp only at ht hd hd2
  subst ht
  rw [hd, hd2]
theorem any_of_steps (ex : Nat → Bool) (c : Nat → Value) (hex : ∀ j v u, ex j = true → V j v u → v = c j) (hok : okV ops = true) (hrefl : ∀ a, R a a) (htrans : ∀ a b c, R a b → R b c → R a c) (hmono : ∀ j v u u', R u u' → V j v u → V j v u')
    (h : ∀ x : Nat → Value, (∀ j, ex j = true → x j = c j) → stepsV P ops R w V x (fun a' w' => Q .normal a' w') ops.toList 0 a) :
    ∀ (fuel : Nat) (listed : Array Bool) (x : Nat → Value) (a1 : Act) (w1 : World), (∀ j, ex j = true → x j = c j) → InvV ops R w V a listed x a1 w1 →
      (List.range ops.size).countP (fun i => !listed.getD i true) ≤ fuel → wpAny P .any ops Q fuel listed a1 w1 := by
  obtain ⟨hsel, hspec⟩ := okV_spec hok
  have key : ∀ (listed : Array Bool), listed.size = ops.size → Region.ready .any ops listed = [] → ∀ j, j < ops.size → listed.getD j false = true := by
    intro listed hs hr j
    induction j using Nat.strongRecOn with
    | _ j ih =>
      intro hj
      cases hc : listed.getD j false with
      | true => rfl
      | false =>
        have : j ∈ Region.ready .any ops listed := mem_ready.2 ⟨by rw [getD_tf hs hj]; exact hc, ops[j], by simp [hj], fun e he hb => by
          have hlt := (hspec j ops[j] (by simp [hj])).1 e he hb
          exact ih e.on hlt (by omega)⟩
        rw [hr] at this; cases this
  have fin : ∀ (listed : Array Bool) (x : Nat → Value) (a1 : Act) (w1 : World), (∀ j, ex j = true → x j = c j) → InvV ops R w V a listed x a1 w1 → (∀ j, j < ops.size → listed.getD j false = true) → Q .normal a1 w1 := by
    intro listed x a1 w1 hx inv hall
    rw [inv.all hok hall]
    exact (stepsV_split _ _ _ (h x hx)).2 w1 inv.reach fun j hj => inv.facts j hj (hall j hj)
  intro fuel
  induction fuel with
  | zero =>
    intro listed x a1 w1 hx inv hc
    have hall : ∀ j, j < ops.size → listed.getD j false = true := fun j hj => by
      have h0 : (List.range ops.size).countP (fun i => !listed.getD i true) = 0 := by omega
      have := List.countP_eq_zero.1 h0 j (List.mem_range.2 hj)
      rw [← getD_tf inv.lsize hj]
      simpa using this
    refine ⟨?_, fin listed x a1 w1 hx inv hall⟩
    rw [List.eq_nil_iff_forall_not_mem]
    intro i hi
    have h1 := (mem_ready.1 hi).1
    obtain ⟨_, o, ho, _⟩ := mem_ready.1 hi
    have hio := (Array.getElem?_eq_some_iff.1 ho).1
    rw [getD_tf inv.lsize hio, hall i hio] at h1
    cases h1
  | succ fuel ih =>
    intro listed x a1 w1 hx inv hc
    have hx' : ∀ i v u, V i v u → ∀ j, ex j = true → (fun j => if j = i then v else x j) j = c j := by
      intro i v u hv j hj
      by_cases e : j = i
      · subst e; simp only [if_true]; exact hex _ _ _ hj hv
      · simp only [if_neg e]; exact hx j hj
    refine ⟨fun hr => fin listed x a1 w1 hx inv (key listed inv.lsize hr), fun i hi => ?_⟩
    obtain ⟨hiu, o, ho, hall⟩ := mem_ready.1 hi
    have hio := (Array.getElem?_eq_some_iff.1 ho).1
    have hif : listed.getD i false = false := by rw [← getD_tf inv.lsize hio]; exact hiu
    have hsame := inv.same hok ho hif hall
    have hst := (stepsV_split _ _ _ (h x hx)).1 i o (by simpa using ho) w1 inv.reach (fun j hj hlt => by
      have hjs : j < ops.size := by omega
      obtain ⟨_, hm⟩ := List.mem_filter.1 hj
      cases hp : ops[j]? with
      | none => simp [hp] at hm
      | some p =>
        cases hd : p.dst with
        | none => simp [hp, hd] at hm
        | some d =>
          simp [hp, hd] at hm
          rcases ((hspec i o ho).2 j p d hp hd).2 hm with ⟨_, he⟩ | ⟨hle, _⟩
          · obtain ⟨e, he1, he2⟩ := Array.any_eq_true'.1 he
            simp only [Bool.and_eq_true, beq_iff_eq] at he2
            have hl := hall e he1 he2.1
            rw [he2.2] at hl
            exact inv.facts j hjs hl
          · omega)
    rw [← wanted_same hsame] at hst
    rw [execOp_congr (ρ := (putsV x (ops.toList.take i) 0 a).eval) (ρ' := a1.eval) o (Region.noSelect_spec hsel i o · · ho) (fun y hy => (eval_same hsame y hy).symm), Nat.zero_add] at hst
    have hcount : ∀ (l2 : Array Bool), l2 = listed.setIfInBounds i true → (List.range ops.size).countP (fun i => !l2.getD i true) ≤ fuel := by
      rintro l2 rfl
      have : (List.range ops.size).countP (fun j => !(listed.setIfInBounds i true).getD j true) < (List.range ops.size).countP (fun j => !listed.getD j true) := by
        refine countP_lt (i := i) (fun j _ hq => ?_) (List.mem_range.2 hio) (by simp only [hiu]; rfl) ?_
        · by_cases hj : j = i
          · subst hj; simp only [hiu]; rfl
          · rw [getD_set_ne true (Ne.symm hj)] at hq; exact hq
        · have : i < listed.size := by rw [inv.lsize]; exact hio
          simp [this]
      omega
    unfold wpOp
    simp only [ho]
    split
    · rename_i hw
      rw [if_pos hw] at hst
      refine .inl (wp_of_gives (hst.mono fun v w2 ⟨hR, hv⟩ => ?_))
      exact ih _ _ _ _ (hx' i v w2 hv) (inv.step hok htrans hmono ho hif hall hR hv) (hcount _ rfl)
    · rename_i hw
      rw [if_neg hw] at hst
      exact ih _ _ _ _ (hx' i undef w1 hst) (inv.step hok htrans hmono ho hif hall (hrefl _) hst) (hcount _ rfl)
/-- A region that draws its order: each operation asked once, in the text's order, in whatever world has come. -/
theorem wp_region_K {id : Nat} {l : List Oper} (V : Nat → Value → World → Prop) (ex : Nat → Bool) (c : Nat → Value) (hex : ∀ j v u, ex j = true → V j v u → v = c j) (hm : P.follows .mixedOrders = true) (hok : okV l.toArray = true) (hrefl : ∀ a, R a a) (htrans : ∀ a b c, R a b → R b c → R a c)
    (hdrew : R w w.drew) (hmono : ∀ j v u u', R u u' → V j v u → V j v u')
    (h : ∀ x : Nat → Value, (∀ j, ex j = true → x j = c j) → stepsV P l.toArray R w V x (fun a' w' => Q .normal a' w') l 0 a) : (Code.region id l.toArray true).wp P Q a w := by
  refine wp_region_any hm (any_of_steps (R := R) (V := V) (w := w) (a := a) ex c hex hok hrefl htrans hmono (by simpa using h) _ _ c _ _ (fun _ _ => rfl) ?_ ?_)
  · refine ⟨by simp, hdrew, ?_, rfl, rfl, ?_, fun _ _ => rfl, ?_⟩
    · intro j o _ hl; simp [Array.getElem?_replicate] at hl
      split at hl <;> simp at hl
    · intro j o t _ _ hl; simp [Array.getElem?_replicate] at hl
      split at hl <;> simp at hl
    · intro j _ hl; simp [Array.getElem?_replicate] at hl
      split at hl <;> simp at hl
  · refine Nat.le_trans List.countP_le_length ?_
    simp
theorem wp_region_V {id : Nat} {l : List Oper} (V : Nat → Value → World → Prop) (hm : P.follows .mixedOrders = true) (hok : okV l.toArray = true) (hrefl : ∀ a, R a a) (htrans : ∀ a b c, R a b → R b c → R a c)
    (hdrew : R w w.drew) (hmono : ∀ j v u u', R u u' → V j v u → V j v u')
    (h : ∀ x, stepsV P l.toArray R w V x (fun a' w' => Q .normal a' w') l 0 a) : (Code.region id l.toArray true).wp P Q a w :=
  wp_region_K V (fun _ => false) (fun _ => undef) (fun _ _ _ h => by cases h) hm hok hrefl htrans hdrew hmono fun x _ => h x
end
/-- The world grows; nothing that was there turns. -/
def Ext (w w' : World) : Prop := Below w.heap.size w w'
theorem Ext.refl (w : World) : Ext w w := Below.refl _ _
theorem Ext.trans {a b c : World} (h : Ext a b) (h' : Ext b c) : Ext a c := Below.trans h (Below.mono h' h.size)
theorem Ext.drew (w : World) : Ext w w.drew := (Below.refl _ _).drew
theorem wp_region_E {P : Program} {w : World} {Q : Exit → Act → World → Prop} {a : Act} {id : Nat} {l : List Oper} (V : Nat → Value → World → Prop) (hm : P.follows .mixedOrders = true) (hok : okV l.toArray = true)
    (hmono : ∀ j v u u', Ext u u' → V j v u → V j v u')
    (h : ∀ x, stepsV P l.toArray Ext w V x (fun a' w' => Q .normal a' w') l 0 a) : (Code.region id l.toArray true).wp P Q a w :=
  wp_region_V V hm hok Ext.refl (fun _ _ _ => Ext.trans) (Ext.drew w) hmono h
end Go.Sp
