/-
  A part of the proofs of this seat: laws of the walk, or contracts of the functions that the statements reach. No conditions but those that each theorem names.
-/
import Derived.Test.YthpjihiikkhcjaaRegH
import Derived.OrdersIn
import Derived.RangeFuncIn
import Derived.RangeFuncCalls
namespace Go.Sp
open Go.RowKit
/-- The wide fence, or a round inside it. -/
def WideF (F : Fence) : Prop := F = Fence.wide ∨ ∃ l, F = Fence.wide.inRound l
theorem WideF.fn {F : Fence} (h : WideF F) (f : FuncId) : F.fn f := by rcases h with rfl | ⟨l, rfl⟩ <;> trivial
theorem WideF.depth {F : Fence} (h : WideF F) : F.depth.isSome = true → 1 ≤ 0 := by rcases h with rfl | ⟨l, rfl⟩ <;> (intro h; cases h)
theorem WideF.calls {F : Fence} (hF : WideF F) {n : Nat} {P : Program} {f : FuncId} {args : Array Value} {w : World} {R : Ending → World → Prop} (h : Calls P f args w R) : CallsIn F n P f args w R := by
  rcases hF with rfl | ⟨l, rfl⟩
  · exact callsIn_wide.2 h
  · exact CallsIn.inRound l (callsIn_wide.2 h)
def isDefer (o : Oper) : Bool := match o.op with | .defer _ => true | _ => false
theorem isDefer_no {o : Oper} (h : isDefer o = false) : ∀ c, o.op ≠ .defer c := fun c e => by simp [isDefer, e] at h
/-- What one operation's run is asked to give, inside the wide fence: a yield's round too. -/
def GivesI (F : Fence) (n : Nat) (P : Program) (post : Value → World → Prop) : Result Next → Prop
  | .ok (.value v) w => post v w
  | .ok .skip w => post undef w
  | .ok (.enter f args) w => CallsIn F (n - 1) P f args w fun e w' => ∃ v, e = .returned v ∧ post v w'
  | .ok (.round l f tmps assign body) w => RoundIn F (n - 1) P l f tmps assign body w fun e w' => ∃ v, e = .returned v ∧ post v w'
  | _ => False
section
variable {F : Fence} {n : Nat} {P : Program} {post : Value → World → Prop} {w : World}
theorem GivesI.mono {post' : Value → World → Prop} {r : Result Next} (h : GivesI F n P post r) (hp : ∀ v w, post v w → post' v w) : GivesI F n P post' r := by
  cases r with
  | ok x w' =>
    cases x <;> simp only [GivesI] at h ⊢
    case value v => exact hp _ _ h
    case skip => exact hp _ _ h
    case enter f args => exact h.mono fun e w'' ⟨v, he, hv⟩ => ⟨v, he, hp _ _ hv⟩
    case round l f tmps assign body => exact h.mono fun e w'' ⟨v, he, hv⟩ => ⟨v, he, hp _ _ hv⟩
  | halt x w' => exact h.elim
theorem noDefer_spec {l : List Oper} (h : l.all (fun o => !isDefer o) = true) (i : Nat) (o : Oper) (ho : l.toArray[i]? = some o) : isDefer o = false := by
  have := List.all_eq_true.1 h o (List.mem_of_getElem? (by simpa using ho))
  simpa using this
theorem wpIn_of_gives (hF : WideF F) {o : Oper} (hdf : isDefer o = false) {a : Act} {K : Act → World → Prop} {Q : Exit → Act → World → Prop}
    (h : GivesI F n P (fun v w' => K (a.put o.dst v) w') ((execOp a.eval o).run P w)) : o.wpIn F n P a w K Q := by
  refine ⟨fun f _ => hF.fn f, ?_⟩
  rw [Oper.semAt_eq _ _ _ (isDefer_no hdf)]
  generalize (execOp a.eval o).run P w = r at *
  cases r with
  | ok x w' =>
    cases x <;> simp only [GivesI, Oper.uponIn] at h ⊢
    case value v => exact h
    case skip => exact h
    case enter f args => exact ⟨fun h => absurd (hF.depth h) (by omega), h.mono fun e w'' ⟨v, he, hv⟩ => by subst he; exact hv⟩
    case round l f tmps assign body => exact ⟨fun h => absurd (hF.depth h) (by omega), h.mono fun e w'' ⟨v, he, hv⟩ => by subst he; exact hv⟩
  | halt x w' => exact h.elim
end
/-- The readers (hd) have their values in any world that comes; the others go in the text's order. -/
def stepsI (F : Fence) (n : Nat) (P : Program) (hd : Nat → Bool) (xh : Nat → Value) (Sc : World → Prop) (S : List Value → World → Prop) (fin : Act → World → Prop) : List Oper → Nat → Act → List Value → Prop
  | [], _, a, vs => ∀ u, S vs u → fin a u
  | o :: rest, i, a, vs =>
    if hd i then (∀ u, Sc u → (execOp a.eval o).run P u = .ok (.value (xh i)) u) ∧ stepsI F n P hd xh Sc S fin rest (i + 1) (a.put o.dst (xh i)) vs
    else (∀ u, S vs u → GivesI F n P (fun v u' => S (vs ++ [v]) u') ((execOp a.eval o).run P u)) ∧ ∀ v, stepsI F n P hd xh Sc S fin rest (i + 1) (a.put o.dst v) (vs ++ [v])
section
variable {F : Fence} {n : Nat} {P : Program} {ops : Array Oper} {hd : Nat → Bool} {xh : Nat → Value} {Sc : World → Prop} {S : List Value → World → Prop} {fin : Act → World → Prop}
theorem stepsI_split {x : Nat → Value} (hx : ∀ j, hd j = true → x j = xh j) : ∀ (l : List Oper) (k : Nat) (a : Act) (vs : List Value), stepsI F n P hd xh Sc S fin l k a vs →
    (∀ (j : Nat) (o : Oper), l[j]? = some o →
      if hd (k + j) then ∀ u, Sc u → (execOp (putsV x (l.take j) k a).eval o).run P u = .ok (.value (xh (k + j))) u
      else ∀ u, S (vs ++ tvl hd x (l.take j) k) u → GivesI F n P (fun v u' => S (vs ++ tvl hd x (l.take j) k ++ [v]) u') ((execOp (putsV x (l.take j) k a).eval o).run P u)) ∧
    (∀ u, S (vs ++ tvl hd x l k) u → fin (putsV x l k a) u)
  | [], k, a, vs, h => ⟨fun j o h => by simp at h, by simpa [tvl, putsV, stepsI] using h⟩
  | p :: l, k, a, vs, h => by
    unfold stepsI at h
    by_cases hk : hd k = true
    · rw [if_pos hk] at h
      obtain ⟨h1, h2⟩ := h
      rw [← hx k hk] at h2
      obtain ⟨h3, h4⟩ := stepsI_split hx l (k + 1) _ _ h2
      refine ⟨fun j o hj => ?_, ?_⟩
      · cases j with
        | zero => simp at hj; subst hj; rw [Nat.add_zero, if_pos hk]; exact h1
        | succ j =>
          have := h3 j o (by simpa using hj)
          rw [show k + 1 + j = k + (j + 1) by omega] at this
          simpa [tvl, hk, putsV] using this
      · simpa [tvl, hk, putsV] using h4
    · rw [if_neg hk] at h
      obtain ⟨h1, h2⟩ := h
      obtain ⟨h3, h4⟩ := stepsI_split hx l (k + 1) _ _ (h2 (x k))
      refine ⟨fun j o hj => ?_, ?_⟩
      · cases j with
        | zero => simp at hj; subst hj; rw [Nat.add_zero, if_neg hk]; simpa [tvl, putsV] using h1
        | succ j =>
          have := h3 j o (by simpa using hj)
          rw [show k + 1 + j = k + (j + 1) by omega] at this
          simpa [tvl, hk, putsV, List.append_assoc] using this
      · simpa [tvl, hk, putsV, List.append_assoc] using h4
end
section
variable {F : Fence} {N : Nat} {P : Program} {ops : Array Oper} {hd : Nat → Bool} {xh : Nat → Value} {Sc : World → Prop} {S : List Value → World → Prop} {Q : Exit → Act → World → Prop} {a : Act} {w : World}
theorem any_of_stepsI (hF : WideF F) (hnd : ∀ (i : Nat) (o : Oper), ops[i]? = some o → isDefer o = false) (hok : okH ops hd = true) (hS : ∀ vs u, S vs u → Sc u)
    (h : stepsI F N P hd xh Sc S (fun a' w' => Q .normal a' w') ops.toList 0 a []) :
    ∀ (fuel : Nat) (listed : Array Bool) (x : Nat → Value) (a1 : Act) (w1 : World), InvV ops (fun _ _ => True) w (fun _ _ _ => True) a listed x a1 w1 →
      (∀ j, hd j = true → x j = xh j) → (∃ n, (∀ j, j < ops.size → hd j = false → (listed.getD j false = true ↔ j < n)) ∧ n ≤ ops.size ∧ S (tvl hd x (ops.toList.take n) 0) w1) →
      (List.range ops.size).countP (fun i => !listed.getD i true) ≤ fuel → wpAnyIn F N P .any ops Q fuel listed a1 w1 := by
  obtain ⟨hokV, hH⟩ := okH_spec hok
  obtain ⟨hsel, hspec⟩ := okV_spec hokV
  have key : ∀ (listed : Array Bool), listed.size = ops.size → Region.ready .any ops listed = [] → ∀ j, j < ops.size → listed.getD j false = true := by
    intro listed hs hr j
    induction j using Nat.strongRecOn with
    | _ j ih =>
      intro hj
      cases hc : listed.getD j false with
      | true => rfl
      | false =>
        have : j ∈ Region.ready .any ops listed := mem_ready.2 ⟨by rw [getD_tf hs hj]; exact hc, ops[j], by simp [hj], fun e he hb => by
          have hlt := (hspec j ops[j] (by simp [hj])).1 e he hb
          exact ih e.on hlt (by omega)⟩
        rw [hr] at this; cases this
  have fin : ∀ (listed : Array Bool) (x : Nat → Value) (a1 : Act) (w1 : World), InvV ops (fun _ _ => True) w (fun _ _ _ => True) a listed x a1 w1 → (∀ j, hd j = true → x j = xh j) →
      (∃ n, (∀ j, j < ops.size → hd j = false → (listed.getD j false = true ↔ j < n)) ∧ n ≤ ops.size ∧ S (tvl hd x (ops.toList.take n) 0) w1) → (∀ j, j < ops.size → listed.getD j false = true) → Q .normal a1 w1 := by
    intro listed x a1 w1 inv hx ⟨n, hn, hns, hs⟩ hall
    rw [inv.all hokV hall]
    refine (stepsI_split hx _ _ _ _ h).2 w1 ?_
    rw [List.nil_append]
    rw [← tvl_skip ops.toList 0 n ops.size hns (fun j h1 h2 => by
      cases hj : hd j with
      | true => rfl
      | false => have := (hn j (by omega) hj).1 (hall j (by omega)); omega)] at hs
    rwa [List.take_of_length_le (by simp)] at hs
  intro fuel
  induction fuel with
  | zero =>
    intro listed x a1 w1 inv hx hN hc
    have hall : ∀ j, j < ops.size → listed.getD j false = true := fun j hj => by
      have h0 : (List.range ops.size).countP (fun i => !listed.getD i true) = 0 := by omega
      have := List.countP_eq_zero.1 h0 j (List.mem_range.2 hj)
      rw [← getD_tf inv.lsize hj]
      simpa using this
    refine ⟨?_, fin listed x a1 w1 inv hx hN hall⟩
    rw [List.eq_nil_iff_forall_not_mem]
    intro i hi
    have h1 := (mem_ready.1 hi).1
    obtain ⟨_, o, ho, _⟩ := mem_ready.1 hi
    have hio := (Array.getElem?_eq_some_iff.1 ho).1
    rw [getD_tf inv.lsize hio, hall i hio] at h1
    cases h1
  | succ fuel ih =>
    intro listed x a1 w1 inv hx hN hc
    refine ⟨fun hr => fin listed x a1 w1 inv hx hN (key listed inv.lsize hr), fun i hi => ?_⟩
    obtain ⟨hiu, o, ho, hall⟩ := mem_ready.1 hi
    have hio := (Array.getElem?_eq_some_iff.1 ho).1
    have hif : listed.getD i false = false := by rw [← getD_tf inv.lsize hio]; exact hiu
    have hsame := inv.same hokV ho hif hall
    have hst := (stepsI_split hx _ _ _ _ h).1 i o (by simpa using ho)
    rw [execOp_congr (ρ := (putsV x (ops.toList.take i) 0 a).eval) (ρ' := a1.eval) o (Region.noSelect_spec hsel i o · · ho) (fun y hy => (eval_same hsame y hy).symm), Nat.zero_add, List.nil_append] at hst
    have hcount : ∀ (l2 : Array Bool), l2 = listed.setIfInBounds i true → (List.range ops.size).countP (fun i => !l2.getD i true) ≤ fuel := by
      rintro l2 rfl
      have : (List.range ops.size).countP (fun j => !(listed.setIfInBounds i true).getD j true) < (List.range ops.size).countP (fun j => !listed.getD j true) := by
        refine countP_lt (i := i) (fun j _ hq => ?_) (List.mem_range.2 hio) (by simp only [hiu]; rfl) ?_
        · by_cases hj : j = i
          · subst hj; simp only [hiu]; rfl
          · rw [getD_set_ne true (Ne.symm hj)] at hq; exact hq
        · have : i < listed.size := by rw [inv.lsize]; exact hio
          simp [this]
      omega
    have hwant : Region.wanted o (yielded ops a1.tmps) = true := by unfold Region.wanted; rw [(hH i o ho).1]
    have hset : ∀ j, j ≠ i → (listed.setIfInBounds i true).getD j false = listed.getD j false := fun j hj => getD_set_ne false (Ne.symm hj)
    have hseti : (listed.setIfInBounds i true).getD i false = true := by
      have : i < listed.size := by rw [inv.lsize]; exact hio
      simp [this]
    obtain ⟨n, hn, hns, hs⟩ := hN
    unfold wpOpIn
    simp only [ho]
    rw [if_pos hwant]
    by_cases hh : hd i = true
    · rw [if_pos hh] at hst
      refine (wpIn_of_gives hF (hnd i o ho) ?_)
      rw [hst w1 (hS _ _ hs)]
      have hxe : (fun j => if j = i then xh i else x j) = x := by
        funext j; by_cases hj : j = i
        · subst hj; rw [if_pos rfl, hx _ hh]
        · rw [if_neg hj]
      have hi2 := inv.step hokV (fun _ _ _ _ _ => trivial) (fun _ _ _ _ _ _ => trivial) ho hif hall (v := xh i) (w2 := w1) trivial trivial
      rw [hxe] at hi2
      refine ih _ _ _ _ hi2 hx ⟨n, fun j hj hf => ?_, hns, hs⟩ (hcount _ rfl)
      rw [hset j (fun e => by rw [e, hh] at hf; cases hf)]
      exact hn j hj hf
    · have hhf : hd i = false := by simpa using hh
      rw [if_neg hh] at hst
      have hni : n ≤ i := by
        have := hn i hio hhf
        rw [hif] at this
        have : ¬ i < n := fun h => absurd (this.2 h) (by simp)
        omega
      have hbet : ∀ j, n ≤ j → j < i → hd j = true := by
        intro j h1 h2
        cases hj : hd j with
        | true => rfl
        | false =>
          obtain ⟨p, h3, h4, h5, h6, _⟩ := (hH i o ho).2 hhf j h2 hj
          obtain ⟨e, he1, he2⟩ := Array.any_eq_true'.1 h6
          simp only [Bool.and_eq_true, beq_iff_eq] at he2
          have hl := hall e he1 he2.1
          rw [he2.2] at hl
          have := (hn p (by omega) h5).1 hl
          omega
      rw [← tvl_skip ops.toList 0 n i hni (fun j h1 h2 => hbet j (by omega) (by omega))] at hs
      refine (wpIn_of_gives hF (hnd i o ho) ((hst w1 hs).mono fun v w2 hv => ?_))
      have hcg : tvl hd (fun j => if j = i then v else x j) (ops.toList.take i) 0 = tvl hd x (ops.toList.take i) 0 := tvl_congr _ _ fun j h1 h2 => by
        rw [if_neg]; simp at h2; omega
      refine ih _ _ _ _ (inv.step hokV (fun _ _ _ _ _ => trivial) (fun _ _ _ _ _ _ => trivial) ho hif hall (v := v) (w2 := w2) trivial trivial) (fun j hj => ?_) ⟨i + 1, fun j hj hf => ?_, hio, ?_⟩ (hcount _ rfl)
      · rw [if_neg (fun e => by rw [e, hhf] at hj; cases hj)]; exact hx j hj
      · by_cases hji : j = i
        · subst hji; simp [hseti]
        · rw [hset j hji, hn j hj hf]
          refine ⟨fun h => by omega, fun h => ?_⟩
          cases Nat.lt_or_ge j n with
          | inl h => exact h
          | inr h' => have := hbet j h' (by omega); rw [hf] at this; cases this
      · rw [tvl_snoc ops.toList 0 i o (by simpa using ho) (by simpa using hhf), hcg]
        simpa using hv
/-- A region that draws its order: the readers (hd) keep their values in any world that comes (Sc), the others wait for one another. -/
theorem wpIn_region_I (hF : WideF F) {id : Nat} {l : List Oper} (hd : Nat → Bool) (xh : Nat → Value) (Sc : World → Prop) (S : List Value → World → Prop) (hm : P.follows .mixedOrders = true) (hok : okH l.toArray hd = true) (hnd : l.all (fun o => !isDefer o) = true)
    (hS : ∀ vs u, S vs u → Sc u) (hw : S [] w.drew)
    (h : stepsI F N P hd xh Sc S (fun a' w' => Q .normal a' w') l 0 a []) : (Code.region id l.toArray true).wpIn F N P Q a w := by
  refine wpIn_region_any hm (any_of_stepsI (w := w) hF (noDefer_spec hnd) (a := a) (hd := hd) (xh := xh) (Sc := Sc) (S := S) hok hS (by simpa using h) _ _ xh _ _ ?_ (fun _ _ => rfl) ⟨0, ?_, by omega, by simpa [tvl] using hw⟩ ?_)
  · refine ⟨by simp, trivial, ?_, rfl, rfl, ?_, fun _ _ => rfl, ?_⟩
    · intro j o _ hl; simp [Array.getElem?_replicate] at hl
      split at hl <;> simp at hl
    · intro j o t _ _ hl; simp [Array.getElem?_replicate] at hl
      split at hl <;> simp at hl
    · intro j _ hl; simp [Array.getElem?_replicate] at hl
      split at hl <;> simp at hl
  · intro j hj _
    have : j < l.length := by simpa using hj
    simp [this]
  · refine Nat.le_trans List.countP_le_length ?_
    simp
end
/-- stepsI over a frame and what has come since. -/
def stepsIE (F : Fence) (n : Nat) (P : Program) (hd : Nat → Bool) (xh : Nat → Value) (Sc : World → Prop) (S : List Value → World → Prop) (a : Act) (fin : Act → World → Prop) : List Oper → Nat → Env → List Value → Prop
  | [], _, e, vs => ∀ u, S vs u → fin (withEnv a e) u
  | o :: rest, i, e, vs =>
    if hd i then (∀ u, Sc u → (execOp (rhoE a e) o).run P u = .ok (.value (xh i)) u) ∧ stepsIE F n P hd xh Sc S a fin rest (i + 1) (pushE o.dst (xh i) e) vs
    else (∀ u, S vs u → GivesI F n P (fun v u' => S (vs ++ [v]) u') ((execOp (rhoE a e) o).run P u)) ∧ ∀ v, stepsIE F n P hd xh Sc S a fin rest (i + 1) (pushE o.dst v e) (vs ++ [v])
section
variable {F : Fence} {n : Nat} {P : Program} {hd : Nat → Bool} {xh : Nat → Value} {Sc : World → Prop} {S : List Value → World → Prop} {a : Act} {fin : Act → World → Prop}
theorem stepsI_of_E : ∀ (l : List Oper) (i : Nat) (e : Env) (vs : List Value), (∀ p ∈ e, p.1 < a.tmps.size) → (l.all (fun o => match o.dst with | some d => decide (d < a.tmps.size) | none => true) = true) →
    stepsIE F n P hd xh Sc S a fin l i e vs → stepsI F n P hd xh Sc S fin l i (withEnv a e) vs
  | [], _, _, _, _, _, h => h
  | o :: l, i, e, vs, he, hl, h => by
    simp only [List.all_cons, Bool.and_eq_true] at hl
    have hput : ∀ v, (withEnv a e).put o.dst v = withEnv a (pushE o.dst v e) := fun v => by cases o.dst <;> rfl
    have hb : ∀ v, ∀ p ∈ pushE o.dst v e, p.1 < a.tmps.size := fun v => by
      cases hd : o.dst with
      | none => exact he
      | some d =>
        intro p hp
        simp only [pushE, List.mem_cons] at hp
        rcases hp with rfl | hp
        · have := hl.1; rw [hd] at this; simpa using this
        · exact he p hp
    unfold stepsIE at h
    unfold stepsI
    by_cases hh : hd i = true
    · rw [if_pos hh] at h
      rw [if_pos hh, eval_withEnv a e he, hput]
      exact ⟨h.1, stepsI_of_E l _ _ _ (hb _) hl.2 h.2⟩
    · rw [if_neg hh] at h
      rw [if_neg hh, eval_withEnv a e he]
      refine ⟨h.1, fun v => ?_⟩
      rw [hput]
      exact stepsI_of_E l _ _ _ (hb _) hl.2 (h.2 v)
theorem wpIn_region_IE (hF : WideF F) {w : World} {Q : Exit → Act → World → Prop} {id : Nat} {l : List Oper} (hd : Nat → Bool) (xh : Nat → Value) (Sc : World → Prop) (S : List Value → World → Prop) (hm : P.follows .mixedOrders = true) (hok : okH l.toArray hd = true) (hnd : l.all (fun o => !isDefer o) = true)
    (hsz : l.all (fun o => match o.dst with | some d => decide (d < a.tmps.size) | none => true) = true) (hS : ∀ vs u, S vs u → Sc u) (hw : S [] w.drew)
    (h : stepsIE F n P hd xh Sc S a (fun a' w' => Q .normal a' w') l 0 [] []) : (Code.region id l.toArray true).wpIn F n P Q a w :=
  wpIn_region_I hF hd xh Sc S hm hok hnd hS hw (stepsI_of_E (a := a) l 0 [] [] (fun _ h => by cases h) hsz h)
variable {rest : List Oper} {i d : Nat} {e : Env} {vs : List Value} {op : Op} {ty : TypeId} {pos : String} {aft : Array Edge} {gd : Option (Nat × Bool)}
theorem IE_head {v : Value} (hh : hd i = true) (hv : xh i = v) (h : ∀ u, Sc u → (execOp (rhoE a e) ⟨some d, op, ty, pos, aft, gd⟩).run P u = .ok (.value v) u) (k : stepsIE F n P hd xh Sc S a fin rest (i + 1) ((d, v) :: e) vs) : stepsIE F n P hd xh Sc S a fin (⟨some d, op, ty, pos, aft, gd⟩ :: rest) i e vs := by
  subst hv
  unfold stepsIE; rw [if_pos hh]; exact ⟨h, k⟩
theorem IE_run (hh : hd i = false) (h : ∀ u, S vs u → ∃ v u', (execOp (rhoE a e) ⟨some d, op, ty, pos, aft, gd⟩).run P u = .ok (.value v) u' ∧ S (vs ++ [v]) u') (k : ∀ v, stepsIE F n P hd xh Sc S a fin rest (i + 1) ((d, v) :: e) (vs ++ [v])) : stepsIE F n P hd xh Sc S a fin (⟨some d, op, ty, pos, aft, gd⟩ :: rest) i e vs := by
  unfold stepsIE; rw [if_neg (by simp [hh])]
  refine ⟨fun u hu => ?_, k⟩
  obtain ⟨v, u', hr, hs⟩ := h u hu
  rw [hr]; exact hs
theorem IE_call (hF : WideF F) {f : FuncId} {args : Array Value} (hh : hd i = false) (hr : ∀ u, (execOp (rhoE a e) ⟨some d, op, ty, pos, aft, gd⟩).run P u = .ok (.enter f args) u) (h : ∀ u, S vs u → Calls P f args u fun e u' => ∃ v, e = .returned v ∧ S (vs ++ [v]) u') (k : ∀ v, stepsIE F n P hd xh Sc S a fin rest (i + 1) ((d, v) :: e) (vs ++ [v])) : stepsIE F n P hd xh Sc S a fin (⟨some d, op, ty, pos, aft, gd⟩ :: rest) i e vs := by
  unfold stepsIE; rw [if_neg (by simp [hh])]
  refine ⟨fun u hu => ?_, k⟩
  rw [hr]; exact hF.calls (h u hu)
theorem IE_round (hh : hd i = false) (h : ∀ u, S vs u → ∃ l f tmps assign body, (execOp (rhoE a e) ⟨some d, op, ty, pos, aft, gd⟩).run P u = .ok (.round l f tmps assign body) u ∧ RoundIn F (n - 1) P l f tmps assign body u fun e u' => ∃ v, e = .returned v ∧ S (vs ++ [v]) u') (k : ∀ v, stepsIE F n P hd xh Sc S a fin rest (i + 1) ((d, v) :: e) (vs ++ [v])) : stepsIE F n P hd xh Sc S a fin (⟨some d, op, ty, pos, aft, gd⟩ :: rest) i e vs := by
  unfold stepsIE; rw [if_neg (by simp [hh])]
  refine ⟨fun u hu => ?_, k⟩
  obtain ⟨l, f, tmps, assign, body, hr, h⟩ := h u hu
  rw [hr]; exact h
theorem IE_nil (h : ∀ u, S vs u → fin (withEnv a e) u) : stepsIE F n P hd xh Sc S a fin [] i e vs := h
end
attribute [irreducible] stepsIE
end Go.Sp
