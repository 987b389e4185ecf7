/-
  A part of the proofs of this seat: laws of the walk, or contracts of the functions that the statements reach. No conditions but those that each theorem names.
-/
import Derived.Test.YthpjihiikkhcjaaRegV
namespace Go.Sp
open Go.RowKit
section
variable {P : Program} {ops : Array Oper} {R : World → World → Prop} {w : World} {V : Nat → Value → World → Prop} {Q : Exit → Act → World → Prop} {a : Act}
/-- All but the last are listed. -/
theorem InvV.allBut {listed : Array Bool} {x : Nat → Value} {a1 : Act} {w1 : World} (hok : okV ops = true) (inv : InvV ops R w V a listed x a1 w1) {m : Nat} (hm : m + 1 = ops.size) (hml : listed.getD m false = false)
    (hall : ∀ j, j < m → listed.getD j false = true) : a1 = putsV x (ops.toList.take m) 0 a := by
  obtain ⟨_, hspec⟩ := okV_spec hok
  have ht : a1.tmps = (putsV x (ops.toList.take m) 0 a).tmps := by
    apply Array.ext_getElem?
    intro t
    by_cases hw : ∃ (j : Nat) (p : Oper), ops[j]? = some p ∧ p.dst = some t
    · obtain ⟨j, p, hp, hd⟩ := hw
      have hjs := (Array.getElem?_eq_some_iff.1 hp).1
      have hju : ∀ (j' : Nat) (o' : Oper), ops[j']? = some o' → o'.dst = some t → j' = j := fun j' o' h' hd' => by
        rcases ((hspec j' o' h').2 j p t hp hd).1 with h | h
        · exact h
        · exact absurd hd' h
      by_cases hj : j = m
      · rw [inv.rest t (fun j' o' h' hd' => by rw [hju j' o' h' hd', hj]; exact hml), putsV_other x t _ 0 a (fun q hq hqt => by
          obtain ⟨k, hk⟩ := List.getElem?_of_mem hq
          rw [List.getElem?_take] at hk
          split at hk
          · have := hju k q (by simpa using hk) hqt; omega
          · cases hk)]
      · rw [inv.done j p t hp hd (hall j (by omega)), putsV_at x t _ 0 j a p (by rw [List.getElem?_take, if_pos (by omega)]; simpa using hp) hd (fun j' o' h' hd' => by
          rw [List.getElem?_take] at h'
          split at h'
          · exact hju j' o' (by simpa using h') hd'
          · cases h')]
        simp
    · have hno : ∀ (j : Nat) (p : Oper), ops[j]? = some p → p.dst ≠ some t := fun j p hp hd => hw ⟨j, p, hp, hd⟩
      rw [inv.rest t (fun j' o' h' hd' => absurd hd' (hno j' o' h')), putsV_other x t _ 0 a (fun q hq hqt => by
        obtain ⟨k, hk⟩ := List.getElem?_of_mem hq
        rw [List.getElem?_take] at hk
        split at hk
        · exact hno k q (by simpa using hk) hqt
        · cases hk)]
  have hd := inv.defers
  have hd2 := putsV_defers x (ops.toList.take m) 0 a
  cases a1
  cases hp : putsV x (ops.toList.take m) 0 a
  rw [hp] at ht hd2
  simp only at ht hd hd2
  subst ht
  rw [hd, hd2]
theorem any_of_tail (ex : Nat → Bool) (c : Nat → Value) (hex : ∀ j v u, ex j = true → V j v u → v = c j) (hok : okV ops = true) (hrefl : ∀ a, R a a) (htrans : ∀ a b c, R a b → R b c → R a c) (hmono : ∀ j v u u', R u u' → V j v u → V j v u')
    {m : Nat} (hm : m + 1 = ops.size) {ol : Oper} (hol : ops[m]? = some ol) (hog : ol.guard = none) (hwait : ∀ j, j < m → edgeOn ol j = true)
    (h : ∀ x : Nat → Value, (∀ j, ex j = true → x j = c j) → stepsV P ops R w (fun j v u => j < m → V j v u) x (fun a' w' => wpList P ops Q [ol] a' w') (ops.toList.take m) 0 a) :
    ∀ (fuel : Nat) (listed : Array Bool) (x : Nat → Value) (a1 : Act) (w1 : World), (∀ j, ex j = true → x j = c j) → InvV ops R w (fun j v u => j < m → V j v u) a listed x a1 w1 → listed.getD m false = false →
      (List.range ops.size).countP (fun i => !listed.getD i true) ≤ fuel → wpAny P .any ops Q fuel listed a1 w1 := by
  obtain ⟨hsel, hspec⟩ := okV_spec hok
  have hmono' : ∀ j v u u', R u u' → (j < m → V j v u) → (j < m → V j v u') := fun j v u u' hu hv hj => hmono j v u u' hu (hv hj)
  have hcnt : ∀ listed : Array Bool, listed.size = ops.size → listed.getD m false = false → 0 < (List.range ops.size).countP (fun i => !listed.getD i true) := by
    intro listed hs hl
    refine List.countP_pos_iff.2 ⟨m, List.mem_range.2 (by omega), ?_⟩
    rw [getD_tf hs (by omega), hl]; rfl
  intro fuel
  induction fuel with
  | zero =>
    intro listed x a1 w1 hx inv hl hc
    have := hcnt listed inv.lsize hl
    omega
  | succ fuel ih =>
    intro listed x a1 w1 hx inv hl hc
    have hready : Region.ready .any ops listed ≠ [] := by
      intro hr
      have key : ∀ j, j < ops.size → listed.getD j false = true := by
        intro j
        induction j using Nat.strongRecOn with
        | _ j ih =>
          intro hj
          cases hcc : listed.getD j false with
          | true => rfl
          | false =>
            have : j ∈ Region.ready .any ops listed := mem_ready.2 ⟨by rw [getD_tf inv.lsize hj]; exact hcc, ops[j], by simp [hj], fun e he hb => by
              have hlt := (hspec j ops[j] (by simp [hj])).1 e he hb
              exact ih e.on hlt (by omega)⟩
            rw [hr] at this; cases this
      rw [key m (by omega)] at hl; cases hl
    refine ⟨fun hr => absurd hr hready, fun i hi => ?_⟩
    obtain ⟨hiu, o, ho, hall⟩ := mem_ready.1 hi
    have hio := (Array.getElem?_eq_some_iff.1 ho).1
    have hif : listed.getD i false = false := by rw [← getD_tf inv.lsize hio]; exact hiu
    have hcount : ∀ (l2 : Array Bool), l2 = listed.setIfInBounds i true → (List.range ops.size).countP (fun i => !l2.getD i true) ≤ fuel := by
      rintro l2 rfl
      have : (List.range ops.size).countP (fun j => !(listed.setIfInBounds i true).getD j true) < (List.range ops.size).countP (fun j => !listed.getD j true) := by
        refine countP_lt (i := i) (fun j _ hq => ?_) (List.mem_range.2 hio) (by simp only [hiu]; rfl) ?_
        · by_cases hj : j = i
          · subst hj; simp only [hiu]; rfl
          · rw [getD_set_ne true (Ne.symm hj)] at hq; exact hq
        · have : i < listed.size := by rw [inv.lsize]; exact hio
          simp [this]
      omega
    by_cases him : i = m
    · subst him
      rw [hol] at ho
      cases ho
      have hj : ∀ j, j < i → listed.getD j false = true := fun j hj => by
        obtain ⟨e, he1, he2⟩ := Array.any_eq_true'.1 (hwait j hj)
        simp only [Bool.and_eq_true, beq_iff_eq] at he2
        have hl := hall e he1 he2.1
        rwa [he2.2] at hl
      have ha := inv.allBut hok hm hif hj
      have hfin := (stepsV_split _ _ _ (h x hx)).2 w1 inv.reach fun j hj' hlt => inv.facts j hj' (hj j hlt) hlt
      rw [← ha] at hfin
      unfold wpOp
      simp only [hol]
      have hwant : Region.wanted ol (yielded ops a1.tmps) = true := by unfold Region.wanted; rw [hog]
      rw [if_pos hwant]
      unfold wpList at hfin
      rw [if_pos hwant] at hfin
      rcases hfin with hfin | hfin
      case inr => exact .inr hfin
      refine .inl (Oper.wp_mono (fun a2 w2 hq => ?_) hfin)
      replace hq : Q .normal a2 w2 := hq
      have hall2 : ∀ j, j < ops.size → (listed.setIfInBounds i true).getD j true = true := fun j hj' => by
        have hs : (listed.setIfInBounds i true).size = ops.size := by simp [inv.lsize]
        rw [getD_tf hs hj']
        by_cases e : j = i
        · subst e
          have : j < listed.size := by rw [inv.lsize]; exact hio
          simp [this]
        · rw [getD_set_ne false (Ne.symm e)]; exact hj j (by omega)
      have hr0 : Region.ready .any ops (listed.setIfInBounds i true) = [] := by
        rw [List.eq_nil_iff_forall_not_mem]
        intro k hk
        have h1 := (mem_ready.1 hk).1
        obtain ⟨_, o', ho', _⟩ := mem_ready.1 hk
        rw [hall2 k (Array.getElem?_eq_some_iff.1 ho').1] at h1
        cases h1
      cases fuel with
      | zero => exact ⟨hr0, hq⟩
      | succ f => exact ⟨fun _ => hq, fun k hk => by rw [hr0] at hk; cases hk⟩
    · have hilt : i < m := by omega
      have hsame := inv.same hok ho hif hall
      have hst := (stepsV_split _ _ _ (h x hx)).1 i o (by rw [List.getElem?_take, if_pos hilt]; simpa using ho) w1 inv.reach (fun j hj hlt => by
        have hjs : j < ops.size := by omega
        obtain ⟨_, hm'⟩ := List.mem_filter.1 hj
        cases hp : ops[j]? with
        | none => simp [hp] at hm'
        | some p =>
          cases hd : p.dst with
          | none => simp [hp, hd] at hm'
          | some d =>
            simp [hp, hd] at hm'
            rcases ((hspec i o ho).2 j p d hp hd).2 hm' with ⟨_, he⟩ | ⟨hle, _⟩
            · obtain ⟨e, he1, he2⟩ := Array.any_eq_true'.1 he
              simp only [Bool.and_eq_true, beq_iff_eq] at he2
              have hl := hall e he1 he2.1
              rw [he2.2] at hl
              exact inv.facts j hjs hl
            · omega)
      rw [List.take_take, show min i m = i by omega] at hst
      rw [← wanted_same hsame] at hst
      rw [execOp_congr (ρ := (putsV x (ops.toList.take i) 0 a).eval) (ρ' := a1.eval) o (Region.noSelect_spec hsel i o · · ho) (fun y hy => (eval_same hsame y hy).symm), Nat.zero_add] at hst
      have hset : (listed.setIfInBounds i true).getD m false = false := by rw [getD_set_ne false him]; exact hl
      have hx' : ∀ v u, V i v u → ∀ j, ex j = true → (fun j => if j = i then v else x j) j = c j := by
        intro v u hv j hj
        by_cases e : j = i
        · subst e; simp only [if_true]; exact hex _ _ _ hj hv
        · simp only [if_neg e]; exact hx j hj
      unfold wpOp
      simp only [ho]
      split
      · rename_i hw
        rw [if_pos hw] at hst
        refine .inl (wp_of_gives (hst.mono fun v w2 ⟨hR, hv⟩ => ?_))
        exact ih _ _ _ _ (hx' v w2 (hv hilt)) (inv.step hok htrans hmono' ho hif hall hR hv) hset (hcount _ rfl)
      · rename_i hw
        rw [if_neg hw] at hst
        exact ih _ _ _ _ (hx' undef w1 (hst hilt)) (inv.step hok htrans hmono' ho hif hall (hrefl _) hst) hset (hcount _ rfl)
end
end Go.Sp
namespace Go.Sp
open Go.RowKit
section
variable {bt : TypeId} {P : Program} {ops : Array Oper} {R : World → World → Prop} {w : World} {V : Nat → Value → World → Prop} {Q : Exit → Act → World → Prop} {a : Act}
theorem stepsV_under {m : Nat} {x : Nat → Value} {fin : Act → World → Prop} (hV : ∀ j v u, m ≤ j → V j v u) : ∀ (l : List Oper) (i : Nat) (a : Act), i + l.length ≤ m → stepsV P ops R w V x fin l i a → stepsV P ops R w (fun j v u => j < m → V j v u) x fin l i a
  | [], _, _, _, h => fun w1 h1 h2 => h w1 h1 fun j hj => by
    by_cases hjm : j < m
    · exact h2 j hj hjm
    · exact hV j _ _ (by omega)
  | o :: l, i, a, hi, h => by
    simp only [List.length_cons] at hi
    refine ⟨fun w1 hR hf => ?_, stepsV_under hV l (i + 1) _ (by omega) h.2⟩
    have h1 := h.1 w1 hR fun j hj hlt => hf j hj hlt (by omega)
    split
    · rename_i hw
      rw [if_pos hw] at h1
      exact h1.mono fun v w2 ⟨a, b⟩ => ⟨a, fun _ => b⟩
    · rename_i hw
      rw [if_neg hw] at h1
      exact fun _ => h1
/-- The last operation waits for all others. -/
def tailB (l : List Oper) (n : Nat) : Bool := match l.drop n with
  | [o] => o.guard.isNone && (List.range n).all (edgeOn o)
  | _ => false
/-- A region that draws, by values; its last operation comes behind all others. -/
theorem wp_region_VT {id : Nat} {l : List Oper} (n : Nat) (ex : Nat → Bool) (c : Nat → Value) (V : Nat → Value → World → Prop) (hm : P.follows .mixedOrders = true) (hok : okV l.toArray = true) (htl : tailB l n = true)
    (hsz : (l.take n).all (fun o => match o.dst with | some d => decide (d < a.tmps.size) | none => true) = true) (hmono : ∀ j v u u', ExtM bt w.heap.size u u' → V j v u → V j v u') (hV : ∀ j v u, n ≤ j → V j v u)
    (h : ∀ x, stepsVE bt P l.toArray w (fun j => ex j && decide (j < n)) c V x a (fun a' w' => wpList P l.toArray Q (l.drop n) a' w') (l.take n) 0 []) : (Code.region id l.toArray true).wp P Q a w := by
  unfold tailB at htl
  split at htl
  · rename_i o ho
    simp only [Bool.and_eq_true, Option.isNone_iff_eq_none, List.all_eq_true, List.mem_range] at htl
    have hlen : n + 1 = l.length := by
      have := congrArg List.length ho
      simp at this; omega
    have hget : l[n]? = some o := by
      have := List.getElem?_drop (xs := l) (i := n) (j := 0)
      rw [ho] at this; simpa using this.symm
    refine wp_region_any hm (any_of_tail (R := ExtM bt w.heap.size) (V := fun i v u => if (ex i && decide (i < n)) then v = c i else V i v u) (w := w) (a := a) (fun j => ex j && decide (j < n)) c (fun j v u hj hv => (if_pos (c := (ex j && decide (j < n)) = true) hj).mp hv) hok (ExtM.refl _ _) (fun _ _ _ => ExtM.trans) ?_ (m := n) (show n + 1 = l.toArray.size by rw [hlen]; rfl) (ol := o) (show l.toArray[n]? = some o from (List.getElem?_toArray ..).trans hget) htl.1 htl.2 ?_ _ _ c _ _ (fun _ _ => rfl) ?_ ?_ ?_)
    · intro j v u u' hu hv
      by_cases hj : (ex j && decide (j < n)) = true
      · rw [if_pos hj] at *; exact hv
      · rw [if_neg hj] at *; exact hmono j v u u' hu hv
    · intro x hx
      have h1 := stepsV_of_E (a := a) hx (l.take n) 0 [] (fun _ h => by cases h) hsz (h x)
      have h2 := stepsV_under (m := n) (fun j v u hj => by
        have : ¬ ((ex j && decide (j < n)) = true) := by simp; omega
        rw [if_neg this]; exact hV j v u hj) (l.take n) 0 _ (by simp; omega) h1
      rw [ho] at h2
      exact h2
    · refine ⟨by simp, ExtM.drew _ _ w, ?_, rfl, rfl, ?_, fun _ _ => rfl, ?_⟩
      · intro j o _ hl; simp [Array.getElem?_replicate] at hl
        split at hl <;> simp at hl
      · intro j o t _ _ hl; simp [Array.getElem?_replicate] at hl
        split at hl <;> simp at hl
      · intro j _ hl; simp [Array.getElem?_replicate] at hl
        split at hl <;> simp at hl
    · simp [Array.getElem?_replicate]
      split <;> rfl
    · refine Nat.le_trans List.countP_le_length ?_
      simp
  · cases htl
end
end Go.Sp
