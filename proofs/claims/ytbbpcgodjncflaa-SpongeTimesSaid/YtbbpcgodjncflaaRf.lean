/-
  A part of the proofs of this seat: laws of the walk, or contracts of the functions that the statements reach. No conditions but those that each theorem names.
-/
import Derived.Test.YtbbpcgodjncflaaRegHI
import Derived.Test.YtbbpcgodjncflaaMem2
import Derived.RangeFuncFrom
import Derived.RangeFuncLeaves
import Derived.RangeFuncCalls
namespace Go.Sp
open Go.RowKit
abbrev yv (l : Nat) : Value := .func (.yield l) #[] #[]
/-- An iterator that only a round ends: whatever the rounds keep, it hands on. -/
def Endless (n : Nat) (P : Program) (gf : Nat) (lb : Array Value) (x : Nat → Value) (N : Nat) (K : World → Prop) (w : World) : Prop :=
  ∀ (l : Nat) (J : Nat → World → Prop) (Jx : World → Prop) (W : World), Below w.heap.size w W → (∀ k A B, J k A → Below A.heap.size A B → J k B) → (∀ k A, J k A → k < N ∧ K A) → (∀ A, Jx A → K A) →
    (∀ k A, J k A → YieldAt Fence.wide n P l #[x k] A fun e B => (e = .returned (.bool true) ∧ J (k + 1) B) ∨ (e = .returned (.bool false) ∧ Jx B)) →
    J 0 W → CallsIn Fence.wide n P gf (#[yv l] ++ lb) W fun e B => (∃ v, e = .returned v) ∧ Jx B
theorem grown_below {A B : World} (h : Below A.heap.size A B) : A.grownBy B none := ⟨h.os, h.tape, h.output, h.size, fun k hk _ => h.block k hk⟩
/-- How a round's body may end. -/
def rndPost (x : Nat) (I : World → Prop) (Ix : World → Prop) (W : World) : Exit → Act → World → Prop
  | .normal, _, W' => KeepsOthers W W' ∧ I W'
  | .exit id, _, W' => id = x ∧ KeepsOthers W W' ∧ Ix W'
  | _, _, _ => False
/-- A range over an endless iterator that a break to block x ends. -/
theorem wp_range_break {n : Nat} {P : Program} {g : Operand} {p : Tmp} {assign body : Code} {Q : Exit → Act → World → Prop} {a : Act} {w : World} {gf : Nat} {lb : Array Value}
    (hg : a.eval g = .func (.func gf) #[] lb) (eg : ∀ args w, (callFunc gf args).run P w = .ok (.enter gf args) w)
    (xb : Nat) (x : Nat → Value) (N : Nat) (K : World → Prop) (hit : Endless n P gf lb x N K w)
    (I : Nat → World → Prop) (I1 : Nat → Act → World → Prop) (Ix : World → Prop)
    (hIN : ∀ k W, I k W → k < N ∧ K W) (hIK : ∀ W, Ix W → K W) (hI : OwnFrom w.heap.size I) (hI1 : ∀ k, OwnFrom w.heap.size (I1 k)) (hIx : OwnFrom w.heap.size fun (_ : Unit) => Ix) (h0 : I 0 w)
    (hassign : ∀ (l k : Nat) (W : World), I k W → assign.wpIn (Fence.wide.inRound l) n P (Exit.then (fun a1 W1 => KeepsOthers W W1 ∧ I1 k a1 W1) (fun _ _ _ => False)) ⟨a.tmps.setIfInBounds p (x k), []⟩ W)
    (hbody : ∀ (l k : Nat) (a1 : Act) (W : World), I1 k a1 W → body.wpIn (Fence.wide.inRound l) n P (rndPost xb (I (k + 1)) Ix W) a1 W)
    (hstop : ∀ (D : Nat) (W : World), w.heap.size ≤ D → Ix W → W.heap[D]? = some (.deferred (some [])) → (Code.exit xb).wp P Q { a with defers := { target := .collected D, args := #[] } :: a.defers } W) :
    (Code.rangeFunc g #[p] assign body).wp P Q a w := by
  refine wpIn_wide.1 (wpIn_rangeFunc (F := Fence.wide) (n := n + 1) fun fn _ => ?_)
  obtain ⟨s, hs⟩ : ∃ s, s = w.heap.size := ⟨_, rfl⟩
  let R : LoopState → Option Code → Loop := fun st pe => { state := st, pending := pe, fn, tmps := a.tmps, params := #[p], assign, body, defers := s }
  let W0 := (w.alloc (.deferred (some []))).alloc (.loop (R .ready none))
  have hz : W0.heap.size = s + 2 := by simp [W0, hs]
  have hw0 : Below s w W0 := ((Below.refl _ _).alloc (by omega) _).alloc (by simp; omega) _
  have hl0 : W0.heap[s + 1]? = some (.loop (R .ready none)) := by
    have := World.alloc_heap_new (w.alloc (.deferred (some []))) (.loop (R .ready none))
    rwa [World.size_alloc, ← hs] at this
  have hd0 : W0.heap[s]? = some (.deferred (some [])) := by
    rw [show W0.heap[s]? = (w.alloc (.deferred (some []))).heap[s]? from Below.heap_alloc _ _ _ (by simp; omega), hs]
    exact World.alloc_heap_new w _
  have hi0 : I 0 W0 := hI.alloc _ (hI.alloc _ h0)
  -- what a turn of the record keeps
  have turn : ∀ (W : World) (st : LoopState) (pe : Option Code) (o : Obj), W.heap[s + 1]? = some (.loop (R st pe)) → W.heap[s]? = some (.deferred (some [])) →
      (W.putObj (s + 1) o).heap[s + 1]? = some o ∧ (W.putObj (s + 1) o).heap[s]? = some (.deferred (some [])) ∧ (∀ k, I k W → I k (W.putObj (s + 1) o)) ∧ (∀ k a1, I1 k a1 W → I1 k a1 (W.putObj (s + 1) o)) ∧ (Ix W → Ix (W.putObj (s + 1) o)) := by
    intro W st pe o h1 h2
    refine ⟨World.putObj_heap_same (Array.getElem?_eq_some_iff.1 h1).1, (World.putObj_heap_other (by omega)).trans h2, fun k h => hI.putObj _ h (by omega) h1 rfl, fun k a1 h => (hI1 k).putObj _ h (by omega) h1 rfl, fun h => hIx.putObj (s := ()) _ h (by omega) h1 rfl⟩
  refine ⟨s + 1, [{ target := .collected s, args := #[] }], W0, { target := .fn (.func gf) lb, args := #[yv (s + 1)] }, W0, gf, #[yv (s + 1)] ++ lb, W0, ?_, ?_, fun _ _ => trivial, ?_, fun h => (by cases h), ?_⟩
  · rw [show Fence.wide.round = none from rfl, run_enterLoop_outer]
    simp only [W0, R, hs]
  · simp only [resolve, hg]
    simp [go_sem]
  · simp [invoke, go_sem, eg]
  refine (hit (s + 1) (fun k W => I k W ∧ W.heap[s + 1]? = some (.loop (R .ready none)) ∧ W.heap[s]? = some (.deferred (some [])))
    (fun W => Ix W ∧ W.heap[s + 1]? = some (.loop (R .done (some (.exit xb)))) ∧ W.heap[s]? = some (.deferred (some []))) W0 (hs ▸ hw0) ?_ (fun k A h => hIN k A h.1) (fun A h => hIK A h.1) ?_ ⟨hi0, hl0, hd0⟩).mono ?_
  · rintro k A B ⟨h1, h2, h3⟩ hb
    refine ⟨hI k A B none h1 (grown_below hb) (fun _ e => by cases e), (hb.block _ (Array.getElem?_eq_some_iff.1 h2).1).trans h2, (hb.block _ (Array.getElem?_eq_some_iff.1 h3).1).trans h3⟩
  · rintro k W ⟨h1, h2, h3⟩
    refine ⟨fn, _, assign, body, run_yield h2 rfl, roundIn_of_wpIn trivial (wpIn_mono (Q := Exit.then (fun a1 W1 => KeepsOthers W W1 ∧ I1 k a1 W1) (fun _ _ _ => False)) (by simpa [R] using hassign (s + 1) k W h1) ?_)⟩
    rintro e a1 W1 he
    cases e with
    | normal =>
      obtain ⟨k1, i1⟩ := he
      have l1 := k1.same _ _ h2 rfl
      have d1 := k1.same _ _ h3 rfl
      obtain ⟨l2, d2, _, i2, _⟩ := turn W1 _ _ (.loop (R .busy none)) l1 d1
      refine ⟨_, run_beginRound l1 rfl, wpIn_mono (hbody (s + 1) k a1 _ (i2 _ _ i1)) ?_⟩
      rintro e a2 W3 he
      cases e with
      | normal =>
        obtain ⟨k3, i3⟩ := he
        have l3 := k3.same _ _ l2 rfl
        have d3 := k3.same _ _ d2 rfl
        obtain ⟨l4, d4, i4, _, _⟩ := turn W3 _ _ (.loop (R .ready none)) l3 d3
        exact ⟨_, _, run_endRound none l3, .inl ⟨rfl, i4 _ i3, l4, d4⟩⟩
      | exit id =>
        obtain ⟨rfl, k3, i3⟩ := he
        have l3 := k3.same _ _ l2 rfl
        have d3 := k3.same _ _ d2 rfl
        obtain ⟨l4, d4, _, _, i4⟩ := turn W3 _ _ (.loop (R .done (some (.exit id)))) l3 d3
        exact ⟨_, _, run_endRound (some (.exit id)) l3, .inr ⟨rfl, i4 i3, l4, d4⟩⟩
      | _ => exact he.elim
    | _ => exact he.elim
  · rintro e W2 ⟨⟨v, rfl⟩, h1, h2, h3⟩
    obtain ⟨_, d4, _, _, i4⟩ := turn W2 _ _ (.loop (R .exhausted (some (.exit xb)))) h2 h3
    exact ⟨some (.exit xb), _, run_endLoop h2 (by simp [R]), wpIn_wide.2 (hstop s _ (by omega) (i4 h1) d4)⟩
end Go.Sp
