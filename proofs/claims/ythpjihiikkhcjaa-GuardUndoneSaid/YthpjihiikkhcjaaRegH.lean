/-
  A part of the proofs of this seat: laws of the walk, or contracts of the functions that the statements reach. No conditions but those that each theorem names.
-/
import Derived.Test.YthpjihiikkhcjaaReg
import Derived.Test.YthpjihiikkhcjaaSt
namespace Go.Sp
open Go.RowKit
/-- The value operations whose effects are ordered among themselves: each waits for the one before. -/
def okH (ops : Array Oper) (hd : Nat → Bool) : Bool :=
  okV ops && (List.range ops.size).all fun i => match ops[i]? with
    | none => true
    | some o => o.guard.isNone && (hd i || match (List.range i).reverse.find? (fun j => !hd j) with
      | none => true
      | some p => edgeOn o p)
def tvl (hd : Nat → Bool) (x : Nat → Value) : List Oper → Nat → List Value
  | [], _ => []
  | _ :: r, i => if hd i then tvl hd x r (i + 1) else x i :: tvl hd x r (i + 1)
/-- The readers (hd) have their values in any world that comes; the others go in the text's order. -/
def stepsH (P : Program) (hd : Nat → Bool) (xh : Nat → Value) (Sc : World → Prop) (S : List Value → World → Prop) (fin : Act → World → Prop) : List Oper → Nat → Act → List Value → Prop
  | [], _, a, vs => ∀ u, S vs u → fin a u
  | o :: rest, i, a, vs =>
    if hd i then (∀ u, Sc u → (execOp a.eval o).run P u = .ok (.value (xh i)) u) ∧ stepsH P hd xh Sc S fin rest (i + 1) (a.put o.dst (xh i)) vs
    else (∀ u, S vs u → Gives P (fun v u' => S (vs ++ [v]) u') ((execOp a.eval o).run P u)) ∧ ∀ v, stepsH P hd xh Sc S fin rest (i + 1) (a.put o.dst v) (vs ++ [v])
section
variable {P : Program} {ops : Array Oper} {hd : Nat → Bool} {xh : Nat → Value} {Sc : World → Prop} {S : List Value → World → Prop} {fin : Act → World → Prop}
theorem stepsH_split {x : Nat → Value} (hx : ∀ j, hd j = true → x j = xh j) : ∀ (l : List Oper) (k : Nat) (a : Act) (vs : List Value), stepsH P hd xh Sc S fin l k a vs →
    (∀ (j : Nat) (o : Oper), l[j]? = some o →
      if hd (k + j) then ∀ u, Sc u → (execOp (putsV x (l.take j) k a).eval o).run P u = .ok (.value (xh (k + j))) u
      else ∀ u, S (vs ++ tvl hd x (l.take j) k) u → Gives P (fun v u' => S (vs ++ tvl hd x (l.take j) k ++ [v]) u') ((execOp (putsV x (l.take j) k a).eval o).run P u)) ∧
    (∀ u, S (vs ++ tvl hd x l k) u → fin (putsV x l k a) u)
  | [], k, a, vs, h => ⟨fun j o h => by simp at h, by simpa [tvl, putsV, stepsH] using h⟩
  | p :: l, k, a, vs, h => by
    unfold stepsH at h
    by_cases hk : hd k = true
    · rw [if_pos hk] at h
      obtain ⟨h1, h2⟩ := h
      rw [← hx k hk] at h2
      obtain ⟨h3, h4⟩ := stepsH_split hx l (k + 1) _ _ h2
      refine ⟨fun j o hj => ?_, ?_⟩
      · cases j with
        | zero => simp at hj; subst hj; rw [Nat.add_zero, if_pos hk]; exact h1
        | succ j =>
          have := h3 j o (by simpa using hj)
          rw [show k + 1 + j = k + (j + 1) by omega] at this
          simpa [tvl, hk, putsV] using this
      · simpa [tvl, hk, putsV] using h4
    · rw [if_neg hk] at h
      obtain ⟨h1, h2⟩ := h
      obtain ⟨h3, h4⟩ := stepsH_split hx l (k + 1) _ _ (h2 (x k))
      refine ⟨fun j o hj => ?_, ?_⟩
      · cases j with
        | zero => simp at hj; subst hj; rw [Nat.add_zero, if_neg hk]; simpa [tvl, putsV] using h1
        | succ j =>
          have := h3 j o (by simpa using hj)
          rw [show k + 1 + j = k + (j + 1) by omega] at this
          simpa [tvl, hk, putsV, List.append_assoc] using this
      · simpa [tvl, hk, putsV, List.append_assoc] using h4
theorem tvl_skip {x : Nat → Value} : ∀ (l : List Oper) (k n i : Nat), n ≤ i → (∀ j, k + n ≤ j → j < k + i → hd j = true) → tvl hd x (l.take i) k = tvl hd x (l.take n) k
  | [], _, _, _, _, _ => by simp
  | p :: l, k, n, i, hn, h => by
    cases i with
    | zero => obtain rfl : n = 0 := by omega
              rfl
    | succ i =>
      cases n with
      | zero =>
        have hk := h k (by omega) (by omega)
        have := tvl_skip l (k + 1) 0 i (by omega) (fun j h1 h2 => h j (by omega) (by omega)) (x := x)
        simpa [tvl, hk] using this
      | succ n =>
        have := tvl_skip l (k + 1) n i (by omega) (fun j h1 h2 => h j (by omega) (by omega)) (x := x)
        simp only [List.take_succ_cons, tvl, this]
theorem tvl_snoc {x : Nat → Value} : ∀ (l : List Oper) (k i : Nat) (o : Oper), l[i]? = some o → hd (k + i) = false → tvl hd x (l.take (i + 1)) k = tvl hd x (l.take i) k ++ [x (k + i)]
  | [], _, _, _, h, _ => by simp at h
  | p :: l, k, 0, o, _, hh => by
    have : hd k = false := by simpa using hh
    simp [tvl, this]
  | p :: l, k, i + 1, o, h, hh => by
    have := tvl_snoc l (k + 1) i o (by simpa using h) (by rw [show k + 1 + i = k + (i + 1) by omega]; exact hh) (x := x)
    rw [show k + 1 + i = k + (i + 1) by omega] at this
    rw [List.take_succ_cons, List.take_succ_cons, tvl, this, tvl]
    split <;> simp
theorem tvl_congr {x y : Nat → Value} : ∀ (l : List Oper) (k : Nat), (∀ j, k ≤ j → j < k + l.length → x j = y j) → tvl hd x l k = tvl hd y l k
  | [], _, _ => rfl
  | p :: l, k, h => by
    rw [tvl, tvl, tvl_congr l (k + 1) (fun j h1 h2 => h j (by omega) (by simp; omega)), h k (by omega) (by simp)]
theorem okH_spec (h : okH ops hd = true) : okV ops = true ∧ ∀ (i : Nat) (o : Oper), ops[i]? = some o → o.guard = none ∧ (hd i = false → ∀ j, j < i → hd j = false → ∃ p, j ≤ p ∧ p < i ∧ hd p = false ∧ edgeOn o p = true ∧ ∀ q, p < q → q < i → hd q = true) := by
  simp only [okH, Bool.and_eq_true, List.all_eq_true, List.mem_range] at h
  refine ⟨h.1, fun i o ho => ?_⟩
  have hi : i < ops.size := (Array.getElem?_eq_some_iff.1 ho).1
  have h2 := h.2 i hi
  simp only [ho, Bool.and_eq_true, Bool.or_eq_true] at h2
  refine ⟨by simpa using h2.1, fun hf j hj hjf => ?_⟩
  have h3 := h2.2.resolve_left (by simp [hf])
  have hmax : ∀ (n : Nat), j < n → ∃ p, (List.range n).reverse.find? (fun j => !hd j) = some p ∧ j ≤ p ∧ p < n ∧ hd p = false ∧ ∀ q, p < q → q < n → hd q = true := by
    intro n
    induction n with
    | zero => intro h; omega
    | succ n ih =>
      intro h
      rw [List.range_succ, List.reverse_append]
      simp only [List.reverse_cons, List.reverse_nil, List.nil_append, List.singleton_append, List.find?_cons]
      cases hn : hd n with
      | false => exact ⟨n, by simp, by omega, by omega, hn, fun q h1 h2 => by omega⟩
      | true =>
        have hjn : j < n := by
          rcases Nat.lt_succ_iff_lt_or_eq.1 h with h | rfl
          · exact h
          · rw [hjf] at hn; cases hn
        obtain ⟨p, h4, h5, h6, h7, h8⟩ := ih hjn
        refine ⟨p, by simpa using h4, h5, by omega, h7, fun q h1 h2 => ?_⟩
        rcases Nat.lt_succ_iff_lt_or_eq.1 h2 with h | rfl
        · exact h8 q h1 h
        · exact hn
  obtain ⟨p, h4, h5, h6, h7, h8⟩ := hmax i hj
  rw [h4] at h3
  exact ⟨p, h5, h6, h7, h3, h8⟩
end
section
variable {P : Program} {ops : Array Oper} {hd : Nat → Bool} {xh : Nat → Value} {Sc : World → Prop} {S : List Value → World → Prop} {Q : Exit → Act → World → Prop} {a : Act} {w : World}
theorem any_of_stepsH (hok : okH ops hd = true) (hS : ∀ vs u, S vs u → Sc u)
    (h : stepsH P hd xh Sc S (fun a' w' => Q .normal a' w') ops.toList 0 a []) :
    ∀ (fuel : Nat) (listed : Array Bool) (x : Nat → Value) (a1 : Act) (w1 : World), InvV ops (fun _ _ => True) w (fun _ _ _ => True) a listed x a1 w1 →
      (∀ j, hd j = true → x j = xh j) → (∃ n, (∀ j, j < ops.size → hd j = false → (listed.getD j false = true ↔ j < n)) ∧ n ≤ ops.size ∧ S (tvl hd x (ops.toList.take n) 0) w1) →
      (List.range ops.size).countP (fun i => !listed.getD i true) ≤ fuel → wpAny P .any ops Q fuel listed a1 w1 := by
  obtain ⟨hokV, hH⟩ := okH_spec hok
  obtain ⟨hsel, hspec⟩ := okV_spec hokV
  have key : ∀ (listed : Array Bool), listed.size = ops.size → Region.ready .any ops listed = [] → ∀ j, j < ops.size → listed.getD j false = true := by
    intro listed hs hr j
    induction j using Nat.strongRecOn with
    | _ j ih =>
      intro hj
      cases hc : listed.getD j false with
      | true => rfl
      | false =>
        have : j ∈ Region.ready .any ops listed := mem_ready.2 ⟨by rw [getD_tf hs hj]; exact hc, ops[j], by simp [hj], fun e he hb => by
          have hlt := (hspec j ops[j] (by simp [hj])).1 e he hb
          exact ih e.on hlt (by omega)⟩
        rw [hr] at this; cases this
  have fin : ∀ (listed : Array Bool) (x : Nat → Value) (a1 : Act) (w1 : World), InvV ops (fun _ _ => True) w (fun _ _ _ => True) a listed x a1 w1 → (∀ j, hd j = true → x j = xh j) →
      (∃ n, (∀ j, j < ops.size → hd j = false → (listed.getD j false = true ↔ j < n)) ∧ n ≤ ops.size ∧ S (tvl hd x (ops.toList.take n) 0) w1) → (∀ j, j < ops.size → listed.getD j false = true) → Q .normal a1 w1 := by
    intro listed x a1 w1 inv hx ⟨n, hn, hns, hs⟩ hall
    rw [inv.all hokV hall]
    refine (stepsH_split hx _ _ _ _ h).2 w1 ?_
    rw [List.nil_append]
    rw [← tvl_skip ops.toList 0 n ops.size hns (fun j h1 h2 => by
      cases hj : hd j with
      | true => rfl
      | false => have := (hn j (by omega) hj).1 (hall j (by omega)); omega)] at hs
    rwa [List.take_of_length_le (by simp)] at hs
  intro fuel
  induction fuel with
  | zero =>
    intro listed x a1 w1 inv hx hN hc
    have hall : ∀ j, j < ops.size → listed.getD j false = true := fun j hj => by
      have h0 : (List.range ops.size).countP (fun i => !listed.getD i true) = 0 := by omega
      have := List.countP_eq_zero.1 h0 j (List.mem_range.2 hj)
      rw [← getD_tf inv.lsize hj]
      simpa using this
    refine ⟨?_, fin listed x a1 w1 inv hx hN hall⟩
    rw [List.eq_nil_iff_forall_not_mem]
    intro i hi
    have h1 := (mem_ready.1 hi).1
    obtain ⟨_, o, ho, _⟩ := mem_ready.1 hi
    have hio := (Array.getElem?_eq_some_iff.1 ho).1
    rw [getD_tf inv.lsize hio, hall i hio] at h1
    cases h1
  | succ fuel ih =>
    intro listed x a1 w1 inv hx hN hc
    refine ⟨fun hr => fin listed x a1 w1 inv hx hN (key listed inv.lsize hr), fun i hi => ?_⟩
    obtain ⟨hiu, o, ho, hall⟩ := mem_ready.1 hi
    have hio := (Array.getElem?_eq_some_iff.1 ho).1
    have hif : listed.getD i false = false := by rw [← getD_tf inv.lsize hio]; exact hiu
    have hsame := inv.same hokV ho hif hall
    have hst := (stepsH_split hx _ _ _ _ h).1 i o (by simpa using ho)
    rw [execOp_congr (ρ := (putsV x (ops.toList.take i) 0 a).eval) (ρ' := a1.eval) o (Region.noSelect_spec hsel i o · · ho) (fun y hy => (eval_same hsame y hy).symm), Nat.zero_add, List.nil_append] at hst
    have hcount : ∀ (l2 : Array Bool), l2 = listed.setIfInBounds i true → (List.range ops.size).countP (fun i => !l2.getD i true) ≤ fuel := by
      rintro l2 rfl
      have : (List.range ops.size).countP (fun j => !(listed.setIfInBounds i true).getD j true) < (List.range ops.size).countP (fun j => !listed.getD j true) := by
        refine countP_lt (i := i) (fun j _ hq => ?_) (List.mem_range.2 hio) (by simp only [hiu]; rfl) ?_
        · by_cases hj : j = i
          · subst hj; simp only [hiu]; rfl
          · rw [getD_set_ne true (Ne.symm hj)] at hq; exact hq
        · have : i < listed.size := by rw [inv.lsize]; exact hio
          simp [this]
      omega
    have hwant : Region.wanted o (yielded ops a1.tmps) = true := by unfold Region.wanted; rw [(hH i o ho).1]
    have hset : ∀ j, j ≠ i → (listed.setIfInBounds i true).getD j false = listed.getD j false := fun j hj => getD_set_ne false (Ne.symm hj)
    have hseti : (listed.setIfInBounds i true).getD i false = true := by
      have : i < listed.size := by rw [inv.lsize]; exact hio
      simp [this]
    obtain ⟨n, hn, hns, hs⟩ := hN
    unfold wpOp
    simp only [ho]
    rw [if_pos hwant]
    by_cases hh : hd i = true
    · rw [if_pos hh] at hst
      refine .inl (wp_of_gives ?_)
      rw [hst w1 (hS _ _ hs)]
      have hxe : (fun j => if j = i then xh i else x j) = x := by
        funext j; by_cases hj : j = i
        · subst hj; rw [if_pos rfl, hx _ hh]
        · rw [if_neg hj]
      have hi2 := inv.step hokV (fun _ _ _ _ _ => trivial) (fun _ _ _ _ _ _ => trivial) ho hif hall (v := xh i) (w2 := w1) trivial trivial
      rw [hxe] at hi2
      refine ih _ _ _ _ hi2 hx ⟨n, fun j hj hf => ?_, hns, hs⟩ (hcount _ rfl)
      rw [hset j (fun e => by rw [e, hh] at hf; cases hf)]
      exact hn j hj hf
    · have hhf : hd i = false := by simpa using hh
      rw [if_neg hh] at hst
      have hni : n ≤ i := by
        have := hn i hio hhf
        rw [hif] at this
        have : ¬ i < n := fun h => absurd (this.2 h) (by simp)
        omega
      have hbet : ∀ j, n ≤ j → j < i → hd j = true := by
        intro j h1 h2
        cases hj : hd j with
        | true => rfl
        | false =>
          obtain ⟨p, h3, h4, h5, h6, _⟩ := (hH i o ho).2 hhf j h2 hj
          obtain ⟨e, he1, he2⟩ := Array.any_eq_true'.1 h6
          simp only [Bool.and_eq_true, beq_iff_eq] at he2
          have hl := hall e he1 he2.1
          rw [he2.2] at hl
          have := (hn p (by omega) h5).1 hl
          omega
      rw [← tvl_skip ops.toList 0 n i hni (fun j h1 h2 => hbet j (by omega) (by omega))] at hs
      refine .inl (wp_of_gives ((hst w1 hs).mono fun v w2 hv => ?_))
      have hcg : tvl hd (fun j => if j = i then v else x j) (ops.toList.take i) 0 = tvl hd x (ops.toList.take i) 0 := tvl_congr _ _ fun j h1 h2 => by
        rw [if_neg]; simp at h2; omega
      refine ih _ _ _ _ (inv.step hokV (fun _ _ _ _ _ => trivial) (fun _ _ _ _ _ _ => trivial) ho hif hall (v := v) (w2 := w2) trivial trivial) (fun j hj => ?_) ⟨i + 1, fun j hj hf => ?_, hio, ?_⟩ (hcount _ rfl)
      · rw [if_neg (fun e => by rw [e, hhf] at hj; cases hj)]; exact hx j hj
      · by_cases hji : j = i
        · subst hji; simp [hseti]
        · rw [hset j hji, hn j hj hf]
          refine ⟨fun h => by omega, fun h => ?_⟩
          cases Nat.lt_or_ge j n with
          | inl h => exact h
          | inr h' => have := hbet j h' (by omega); rw [hf] at this; cases this
      · rw [tvl_snoc ops.toList 0 i o (by simpa using ho) (by simpa using hhf), hcg]
        simpa using hv
/-- A region that draws its order: the readers (hd) keep their values in any world that comes (Sc), the others wait for one another. -/
theorem wp_region_H {id : Nat} {l : List Oper} (hd : Nat → Bool) (xh : Nat → Value) (Sc : World → Prop) (S : List Value → World → Prop) (hm : P.follows .mixedOrders = true) (hok : okH l.toArray hd = true)
    (hS : ∀ vs u, S vs u → Sc u) (hw : S [] w.drew)
    (h : stepsH P hd xh Sc S (fun a' w' => Q .normal a' w') l 0 a []) : (Code.region id l.toArray true).wp P Q a w := by
  refine wp_region_any hm (any_of_stepsH (w := w) (a := a) (hd := hd) (xh := xh) (Sc := Sc) (S := S) hok hS (by simpa using h) _ _ xh _ _ ?_ (fun _ _ => rfl) ⟨0, ?_, by omega, by simpa [tvl] using hw⟩ ?_)
  · refine ⟨by simp, trivial, ?_, rfl, rfl, ?_, fun _ _ => rfl, ?_⟩
    · intro j o _ hl; simp [Array.getElem?_replicate] at hl
      split at hl <;> simp at hl
    · intro j o t _ _ hl; simp [Array.getElem?_replicate] at hl
      split at hl <;> simp at hl
    · intro j _ hl; simp [Array.getElem?_replicate] at hl
      split at hl <;> simp at hl
  · intro j hj _
    have : j < l.length := by simpa using hj
    simp [this]
  · refine Nat.le_trans List.countP_le_length ?_
    simp
end
end Go.Sp
namespace Go.Sp
open Go.RowKit
section
variable {P : Program} {hd : Nat → Bool} {xh : Nat → Value} {Sc : World → Prop} {S : List Value → World → Prop} {fin : Act → World → Prop} {o : Oper} {rest : List Oper} {i : Nat} {a : Act} {vs : List Value}
theorem H_head {v : Value} (hh : hd i = true) (hv : xh i = v) (h : ∀ u, Sc u → (execOp a.eval o).run P u = .ok (.value v) u) (k : stepsH P hd xh Sc S fin rest (i + 1) (a.put o.dst v) vs) : stepsH P hd xh Sc S fin (o :: rest) i a vs := by
  subst hv
  unfold stepsH; rw [if_pos hh]; exact ⟨h, k⟩
theorem H_val {f : World → Value} (hh : hd i = false) (h : ∀ u, S vs u → (execOp a.eval o).run P u = .ok (.value (f u)) u ∧ S (vs ++ [f u]) u) (k : ∀ v, stepsH P hd xh Sc S fin rest (i + 1) (a.put o.dst v) (vs ++ [v])) : stepsH P hd xh Sc S fin (o :: rest) i a vs := by
  unfold stepsH; rw [if_neg (by simp [hh])]
  refine ⟨fun u hu => ?_, k⟩
  rw [(h u hu).1]; exact (h u hu).2
theorem H_run (hh : hd i = false) (h : ∀ u, S vs u → ∃ v u', (execOp a.eval o).run P u = .ok (.value v) u' ∧ S (vs ++ [v]) u') (k : ∀ v, stepsH P hd xh Sc S fin rest (i + 1) (a.put o.dst v) (vs ++ [v])) : stepsH P hd xh Sc S fin (o :: rest) i a vs := by
  unfold stepsH; rw [if_neg (by simp [hh])]
  refine ⟨fun u hu => ?_, k⟩
  obtain ⟨v, u', hr, hs⟩ := h u hu
  rw [hr]; exact hs
theorem H_call {f : FuncId} {args : Array Value} (hh : hd i = false) (hr : ∀ u, (execOp a.eval o).run P u = .ok (.enter f args) u) (h : ∀ u, S vs u → Calls P f args u fun e u' => ∃ v, e = .returned v ∧ S (vs ++ [v]) u') (k : ∀ v, stepsH P hd xh Sc S fin rest (i + 1) (a.put o.dst v) (vs ++ [v])) : stepsH P hd xh Sc S fin (o :: rest) i a vs := by
  unfold stepsH; rw [if_neg (by simp [hh])]
  refine ⟨fun u hu => ?_, k⟩
  rw [hr]; exact h u hu
theorem H_nil (h : ∀ u, S vs u → fin a u) : stepsH P hd xh Sc S fin [] i a vs := h
end
end Go.Sp
namespace Go.Sp
open Go.RowKit
section
variable {ρ : Operand → Value} {x y z : Operand} {u v t : Value}
theorem map0 : (#[] : Array Operand).map ρ = #[] := by simp
theorem map1 (hx : ρ x = u) : (#[x] : Array Operand).map ρ = #[u] := by simp [hx]
theorem map2 (hx : ρ x = u) (hy : ρ y = v) : (#[x, y] : Array Operand).map ρ = #[u, v] := by simp [hx, hy]
theorem map3 (hx : ρ x = u) (hy : ρ y = v) (hz : ρ z = t) : (#[x, y, z] : Array Operand).map ρ = #[u, v, t] := by simp [hx, hy, hz]
end
end Go.Sp
namespace Go.Sp
open Go.RowKit
/-- stepsH over a frame and what has come since. -/
def stepsHE (P : Program) (hd : Nat → Bool) (xh : Nat → Value) (Sc : World → Prop) (S : List Value → World → Prop) (a : Act) (fin : Act → World → Prop) : List Oper → Nat → Env → List Value → Prop
  | [], _, e, vs => ∀ u, S vs u → fin (withEnv a e) u
  | o :: rest, i, e, vs =>
    if hd i then (∀ u, Sc u → (execOp (rhoE a e) o).run P u = .ok (.value (xh i)) u) ∧ stepsHE P hd xh Sc S a fin rest (i + 1) (pushE o.dst (xh i) e) vs
    else (∀ u, S vs u → Gives P (fun v u' => S (vs ++ [v]) u') ((execOp (rhoE a e) o).run P u)) ∧ ∀ v, stepsHE P hd xh Sc S a fin rest (i + 1) (pushE o.dst v e) (vs ++ [v])
section
variable {P : Program} {hd : Nat → Bool} {xh : Nat → Value} {Sc : World → Prop} {S : List Value → World → Prop} {a : Act} {fin : Act → World → Prop}
theorem stepsH_of_E : ∀ (l : List Oper) (i : Nat) (e : Env) (vs : List Value), (∀ p ∈ e, p.1 < a.tmps.size) → (l.all (fun o => match o.dst with | some d => decide (d < a.tmps.size) | none => true) = true) →
    stepsHE P hd xh Sc S a fin l i e vs → stepsH P hd xh Sc S fin l i (withEnv a e) vs
  | [], _, _, _, _, _, h => h
  | o :: l, i, e, vs, he, hl, h => by
    simp only [List.all_cons, Bool.and_eq_true] at hl
    have hput : ∀ v, (withEnv a e).put o.dst v = withEnv a (pushE o.dst v e) := fun v => by cases o.dst <;> rfl
    have hb : ∀ v, ∀ p ∈ pushE o.dst v e, p.1 < a.tmps.size := fun v => by
      cases hd : o.dst with
      | none => exact he
      | some d =>
        intro p hp
        simp only [pushE, List.mem_cons] at hp
        rcases hp with rfl | hp
        · have := hl.1; rw [hd] at this; simpa using this
        · exact he p hp
    unfold stepsHE at h
    unfold stepsH
    by_cases hh : hd i = true
    · rw [if_pos hh] at h
      rw [if_pos hh, eval_withEnv a e he, hput]
      exact ⟨h.1, stepsH_of_E l _ _ _ (hb _) hl.2 h.2⟩
    · rw [if_neg hh] at h
      rw [if_neg hh, eval_withEnv a e he]
      refine ⟨h.1, fun v => ?_⟩
      rw [hput]
      exact stepsH_of_E l _ _ _ (hb _) hl.2 (h.2 v)
theorem wp_region_HE {w : World} {Q : Exit → Act → World → Prop} {id : Nat} {l : List Oper} (hd : Nat → Bool) (xh : Nat → Value) (Sc : World → Prop) (S : List Value → World → Prop) (hm : P.follows .mixedOrders = true) (hok : okH l.toArray hd = true)
    (hsz : l.all (fun o => match o.dst with | some d => decide (d < a.tmps.size) | none => true) = true) (hS : ∀ vs u, S vs u → Sc u) (hw : S [] w.drew)
    (h : stepsHE P hd xh Sc S a (fun a' w' => Q .normal a' w') l 0 [] []) : (Code.region id l.toArray true).wp P Q a w :=
  wp_region_H hd xh Sc S hm hok hS hw (stepsH_of_E (a := a) l 0 [] [] (fun _ h => by cases h) hsz h)
variable {rest : List Oper} {i d : Nat} {e : Env} {vs : List Value} {op : Op} {ty : TypeId} {pos : String} {aft : Array Edge} {gd : Option (Nat × Bool)}
theorem HE_head {v : Value} (hh : hd i = true) (hv : xh i = v) (h : ∀ u, Sc u → (execOp (rhoE a e) ⟨some d, op, ty, pos, aft, gd⟩).run P u = .ok (.value v) u) (k : stepsHE P hd xh Sc S a fin rest (i + 1) ((d, v) :: e) vs) : stepsHE P hd xh Sc S a fin (⟨some d, op, ty, pos, aft, gd⟩ :: rest) i e vs := by
  subst hv
  unfold stepsHE; rw [if_pos hh]; exact ⟨h, k⟩
theorem HE_run (hh : hd i = false) (h : ∀ u, S vs u → ∃ v u', (execOp (rhoE a e) ⟨some d, op, ty, pos, aft, gd⟩).run P u = .ok (.value v) u' ∧ S (vs ++ [v]) u') (k : ∀ v, stepsHE P hd xh Sc S a fin rest (i + 1) ((d, v) :: e) (vs ++ [v])) : stepsHE P hd xh Sc S a fin (⟨some d, op, ty, pos, aft, gd⟩ :: rest) i e vs := by
  unfold stepsHE; rw [if_neg (by simp [hh])]
  refine ⟨fun u hu => ?_, k⟩
  obtain ⟨v, u', hr, hs⟩ := h u hu
  rw [hr]; exact hs
theorem HE_call {f : FuncId} {args : Array Value} (hh : hd i = false) (hr : ∀ u, (execOp (rhoE a e) ⟨some d, op, ty, pos, aft, gd⟩).run P u = .ok (.enter f args) u) (h : ∀ u, S vs u → Calls P f args u fun e u' => ∃ v, e = .returned v ∧ S (vs ++ [v]) u') (k : ∀ v, stepsHE P hd xh Sc S a fin rest (i + 1) ((d, v) :: e) (vs ++ [v])) : stepsHE P hd xh Sc S a fin (⟨some d, op, ty, pos, aft, gd⟩ :: rest) i e vs := by
  unfold stepsHE; rw [if_neg (by simp [hh])]
  refine ⟨fun u hu => ?_, k⟩
  rw [hr]; exact h u hu
theorem HE_nil (h : ∀ u, S vs u → fin (withEnv a e) u) : stepsHE P hd xh Sc S a fin [] i e vs := h
theorem wp_norm {Q : Exit → Act → World → Prop} {c : Code} {w : World} {l l' : List Value} {ds : List Deferred} {e : Env} (hl : setsL l 0 e = l')
    (h : c.wp P Q ⟨l'.toArray, ds⟩ w) : c.wp P Q (withEnv ⟨l.toArray, ds⟩ e) w := by rw [withEnv_norm hl]; exact h
end
attribute [irreducible] stepsHE
end Go.Sp
