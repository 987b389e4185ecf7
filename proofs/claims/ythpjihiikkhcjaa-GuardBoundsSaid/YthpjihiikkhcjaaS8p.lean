/-
  A part of the proofs of this seat: laws of the walk, or contracts of the functions that the statements reach. No conditions but those that each theorem names.
-/
import Derived.Maps.AppendAt
import Derived.Test.YthpjihiikkhcjaaGi
namespace Go.Sp
open Go.RowKit
/-- The sum of the part from i on, ahead of k. -/
def wsum (bs : List Int) (i k : Nat) : Int := ((bs.take k).drop i).sum
theorem wsum_self (bs : List Int) (i : Nat) : wsum bs i i = 0 := by
  unfold wsum
  rw [List.drop_eq_nil_of_le (by simp; omega)]; rfl
theorem wsum_succ (bs : List Int) (i k : Nat) (b : Int) (h : i ≤ k) (hb : bs[k]? = some b) : wsum bs i (k + 1) = wsum bs i k + b := by
  unfold wsum
  obtain ⟨hk, rfl⟩ := List.getElem?_eq_some_iff.1 hb
  rw [List.take_succ_eq_append_getElem hk, List.drop_append_of_le_length (by simp; omega), List.sum_append]
  simp
theorem wsum_snoc (bs : List Int) (b : Int) (i k : Nat) (h : k ≤ bs.length) : wsum (bs ++ [b]) i k = wsum bs i k := by
  unfold wsum
  rw [List.take_append_of_le_length h]
theorem wsum_last (bs : List Int) (b : Int) (i : Nat) (h : i ≤ bs.length) : wsum (bs ++ [b]) i (bs.length + 1) = wsum bs i bs.length + b := by
  rw [wsum_succ _ i bs.length b h (by simp), wsum_snoc _ _ _ _ (Nat.le_refl _)]
theorem wsum_abs (bs : List Int) (hb : ∀ (i : Nat) (b : Int), bs[i]? = some b → b = 1 ∨ b = -1) (i : Nat) : ∀ (k : Nat), i ≤ k → k ≤ bs.length → -(k : Int) ≤ wsum bs i k ∧ wsum bs i k ≤ k
  | 0, h, _ => by
    obtain rfl : i = 0 := by omega
    rw [wsum_self]; omega
  | k + 1, h, hk => by
    by_cases hi : i = k + 1
    · subst hi; rw [wsum_self]; omega
    · have hbk : bs[k]? = some bs[k] := by simp
      have h1 := wsum_abs bs hb i k (by omega) (by omega)
      rw [wsum_succ bs i k _ (by omega) hbk]
      rcases hb k _ hbk with h2 | h2 <;> omega
theorem tokM_pot (t a now M E : Int) (ht : 0 ≤ t ∧ t ≤ 5) (h : a ≤ now) (he : tokM t a now = (M, E)) : 10 * M - E ≤ 10 * t - a ∧ 10 * M + (now - E) ≤ 50 ∧ t ≤ M ∧ M ≤ 5 ∧ a ≤ E ∧ E ≤ now := by
  unfold tokM at he
  split at he
  · obtain ⟨rfl, rfl⟩ := Prod.mk.inj he; omega
  · split at he
    · obtain ⟨rfl, rfl⟩ := Prod.mk.inj he; omega
    · obtain ⟨h1, h2⟩ := Prod.mk.inj he; omega
/-- What was charged and refunded until now. -/
structure Bnd (ts bs : List Int) (t a now : Int) : Prop where
  len : ts.length = bs.length
  asc : ∀ (i k : Nat) (x y : Int), i ≤ k → ts[i]? = some x → ts[k]? = some y → x ≤ y
  rng : ∀ (i : Nat) (x : Int), ts[i]? = some x → 0 ≤ x ∧ x ≤ now
  one : ∀ (i : Nat) (b : Int), bs[i]? = some b → b = 1 ∨ b = -1
  win : ∀ (i k : Nat) (x y : Int), i ≤ k → ts[i]? = some x → ts[k]? = some y → 10 * wsum bs i (k + 1) ≤ 50 + (y - x)
  pot : ∀ (i : Nat) (x : Int), ts[i]? = some x → 10 * wsum bs i bs.length + 10 * t - a + x ≤ 50
  st : 0 ≤ t ∧ t ≤ 5 ∧ 0 ≤ a ∧ a ≤ now
theorem Bnd.start : Bnd [] [] 5 0 0 := ⟨rfl, by simp, by simp, by simp, by simp, by simp, by omega⟩
theorem Bnd.later {ts bs : List Int} {t a now now' : Int} (h : Bnd ts bs t a now) (hn : now ≤ now') : Bnd ts bs t a now' :=
  ⟨h.len, h.asc, fun i x hx => by have := h.rng i x hx; omega, h.one, h.win, h.pot, by have := h.st; omega⟩
theorem Bnd.event {ts bs : List Int} {t a now M E b t' : Int} (h : Bnd ts bs t a now) (he : tokM t a now = (M, E)) (hb : (b = 1 ∧ t' = M - 1 ∧ 1 ≤ M) ∨ (b = -1 ∧ t' = min (M + 1) 5)) : Bnd (ts ++ [now]) (bs ++ [b]) t' E now := by
  obtain ⟨s1, s2, s3, s4⟩ := h.st
  obtain ⟨p1, p2, p3, p4, p5, p6⟩ := tokM_pot t a now M E ⟨s1, s2⟩ s4 he
  have hl := h.len
  have hget : ∀ (i : Nat) (x : Int), (ts ++ [now])[i]? = some x → (i < ts.length ∧ ts[i]? = some x) ∨ (i = ts.length ∧ x = now) := fun i x hx => by
    rw [List.getElem?_append] at hx
    split at hx
    · exact .inl ⟨by assumption, hx⟩
    · rename_i hlt
      rw [List.getElem?_singleton] at hx
      split at hx
      · cases hx; exact .inr ⟨by omega, rfl⟩
      · cases hx
  refine ⟨by simp [hl], ?_, ?_, ?_, ?_, ?_, by omega⟩
  · intro i k x y hik hx hy
    rcases hget i x hx with ⟨h1, h2⟩ | ⟨h1, h2⟩ <;> rcases hget k y hy with ⟨h3, h4⟩ | ⟨h3, h4⟩
    · exact h.asc i k x y hik h2 h4
    · have := h.rng i x h2; omega
    · omega
    · omega
  · intro i x hx
    rcases hget i x hx with ⟨h1, h2⟩ | ⟨h1, h2⟩
    · exact h.rng i x h2
    · omega
  · intro i c hc
    rw [List.getElem?_append] at hc
    split at hc
    · exact h.one i c hc
    · rw [List.getElem?_singleton] at hc
      split at hc
      · cases hc; omega
      · cases hc
  · intro i k x y hik hx hy
    rcases hget k y hy with ⟨h3, h4⟩ | ⟨h3, h4⟩
    · rcases hget i x hx with ⟨h1, h2⟩ | ⟨h1, h2⟩
      · rw [wsum_snoc _ _ _ _ (by omega)]
        exact h.win i k x y hik h2 h4
      · omega
    · rw [h3, hl, wsum_last _ _ _ (by omega)]
      rcases hget i x hx with ⟨h1, h2⟩ | ⟨h1, h2⟩
      · have := h.pot i x h2
        omega
      · rw [h1, hl, wsum_self]; omega
  · intro i x hx
    rw [List.length_append, List.length_singleton, wsum_last _ _ _ (by
      rcases hget i x hx with ⟨h1, _⟩ | ⟨h1, _⟩ <;> omega)]
    rcases hget i x hx with ⟨h1, h2⟩ | ⟨h1, h2⟩
    · have := h.pot i x h2
      omega
    · rw [h1, hl, wsum_self]; omega
/-- A slice of whole numbers of the call's own. -/
def OwnI (base : Nat) (w : World) (v : Value) (l : List Int) : Prop := w.ownsRow base 3 1 v l.length (l.map (.int .i64))
theorem OwnI.nil (n : Nat) (w : World) : OwnI n w (.slice none 0 0) [] := World.ownsRow_nil w n 3 1
theorem OwnI.kept {n : Nat} {w w' : World} {v : Value} {l : List Int} {row : Option Nat} (h : OwnI n w v l) (b : w.grownBy w' row) (hr : v.ownBlock = none ∨ v.ownBlock ≠ row) : OwnI n w' v l := World.ownsRow.kept h b hr
theorem OwnI.below {n : Nat} {w w' : World} {v : Value} {l : List Int} (h : OwnI n w v l) (b : Below w.heap.size w w') : OwnI n w' v l :=
  World.ownsRow.kept (row := none) h ⟨b.os, b.tape, b.output, b.size, fun k hk _ => b.block k hk⟩ (by cases hv : v.ownBlock <;> simp)
theorem OwnI.lt {n : Nat} {w : World} {v : Value} {l : List Int} (h : OwnI n w v l) : ∀ k, v.ownBlock = some k → n ≤ k ∧ k < w.heap.size := World.ownsRow.lt h
theorem OwnI.only {n p : Nat} {w w' : World} {v : Value} {l : List Int} (h : OwnI n w v l) (b : Only p w w') (hp : p < n) : OwnI n w' v l :=
  World.ownsRow.kept (row := some p) h ⟨b.os, b.tape, b.output, b.size, fun k hk hn => b.block k hk (fun e => hn (by rw [e]))⟩ (by
    cases hv : v.ownBlock with
    | none => exact .inl rfl
    | some k => exact .inr (by have := h.lt k hv; simp; omega))
theorem OwnI.len {n : Nat} {w : World} {v : Value} {l : List Int} (h : OwnI n w v l) : ∃ a cap, v = .slice a l.length cap ∧ l.length ≤ cap ∧ cap ≤ maxLen := by
  rcases h.2 with ⟨rfl, h0⟩ | ⟨g, cap, cur, rfl, _, _, hc, hcm, _⟩
  · exact ⟨none, 0, by rw [h0], by omega, by unfold maxLen; omega⟩
  · exact ⟨_, cap, rfl, hc, hcm⟩
theorem OwnI.cell {n : Nat} {w : World} {v : Value} {l : List Int} (h : OwnI n w v l) (hl : l ≠ []) : ∃ g cap, v = .slice (some ⟨g, 0, none⟩) l.length cap ∧ ∀ (i : Nat) (x : Int), l[i]? = some x → w.cell? ⟨g, i, none⟩ = some (.int .i64 x) := by
  rcases h.2 with ⟨rfl, h0⟩ | ⟨g, cap, cur, rfl, _, hg, hc, hcm, hs, ht⟩
  · exact absurd (List.eq_nil_of_length_eq_zero h0) hl
  · refine ⟨g, cap, rfl, fun i x hi => ?_⟩
    rw [cell_of_row w g i cur 3 (0, 0) hg]
    have h1 : (l.map (Value.int .i64))[i]? = some (.int .i64 x) := by simp [hi]
    rw [← ht, List.getElem?_take] at h1
    split at h1
    · simpa using h1
    · cases h1
end Go.Sp
namespace Go.Proofs.Ythpjihiikkhcjaa
open Go.RowKit Go.Sp
theorem info3 : ∃ i, Try.prog.info? 3 = some i ∧ i.zero = some (.int .i64 0) ∧ i.size = 1 ∧ i.bytes = 8 := info_parts (by kernel_rfl)
/-- Two slices that grow, and a record beside them. -/
structure Two (gr : Nat) (rec : Array Value) (w0 : World) (va vb : Value) (la lb : List Int) (w : World) : Prop where
  row : Blk w gr rec 28
  a : OwnI (gr + 1) w va la
  b : OwnI (gr + 1) w vb lb
  dis : va.ownBlock = none ∨ va.ownBlock ≠ vb.ownBlock
  low : w0.heap.size ≤ gr
  below : Below w0.heap.size w0 w
theorem Two.ext {gr : Nat} {rec : Array Value} {w0 w w' : World} {va vb : Value} {la lb : List Int} (h : Two gr rec w0 va vb la lb w) (hb : Below w.heap.size w w') : Two gr rec w0 va vb la lb w' :=
  ⟨h.row.ext hb, h.a.below hb, h.b.below hb, h.dis, h.low, h.below.trans (hb.mono h.below.size)⟩
theorem Two.set {gr : Nat} {rec rec' : Array Value} {w0 w w' : World} {va vb : Value} {la lb : List Int} (h : Two gr rec w0 va vb la lb w) (hb : Blk w' gr rec' 28) (ho : Only gr w w') : Two gr rec' w0 va vb la lb w' :=
  ⟨hb, h.a.only ho (by omega), h.b.only ho (by omega), h.dis, h.low, h.below.trans (ho.below h.low h.below.size)⟩
theorem Two.swap {gr : Nat} {rec : Array Value} {w0 w : World} {va vb : Value} {la lb : List Int} (h : Two gr rec w0 va vb la lb w) : Two gr rec w0 vb va lb la w :=
  ⟨h.row, h.b, h.a, by
    rcases h.dis with h1 | h1
    · cases hb : vb.ownBlock with
      | none => exact .inl rfl
      | some k => exact .inr (by rw [h1]; simp)
    · exact .inr (Ne.symm h1), h.low, h.below⟩
theorem Two.app {ops : Array Oper} {rest : List Oper} {o : Oper} {act : Act} {Q : Exit → Act → World → Prop} {s x : Operand} {gr : Nat} {rec : Array Value} {w0 w : World} {va vb : Value} {la lb : List Int} {n : Int} {gx : Nat}
    (h : Two gr rec w0 va vb la lb w) (hgd : o.guard = none) (ho : o.op = .call { callee := .builtin .append, args := #[s, x], argTypes := #[41, 41] }) (hs : act.eval s = va) (hx : act.eval x = .slice (some ⟨gx, 0, none⟩) 1 1) (hB : Blk w gx #[.int .i64 n] 3) (hl : la.length ≤ 1000)
    (k : ∀ v' w', Two gr rec w0 v' vb (la ++ [n]) lb w' → wpList Try.prog ops Q rest (act.put o.dst v') w') : wpList Try.prog ops Q (o :: rest) act w := by
  obtain ⟨i, hi, hz, hsz, hby⟩ := info3
  refine wpList_append_own_at w hgd s x 41 ho (gr + 1) 3 i (.int .i64 0) 1 8 Try.underlying41 hi hz hsz hby rfl (by decide) va la.length (la.map (.int .i64)) hs h.a ⟨gx, 0, none⟩ 1 1 [.int .i64 n] hx rfl ?_ (by simp [Value.oneCell']) (by unfold maxLen; omega) (by omega) h.row.lt ?_
  · intro j u hu
    cases j with
    | zero => simp at hu; subst hu; rw [Addr.add_mid, hB.cell]; rfl
    | succ j => simp at hu
  · intro v' w' hown hgrow _ hat
    refine k v' w' ⟨?_, ?_, h.b.kept hgrow ?_, ?_, h.low, h.below.trans (toBelow hgrow h.below.size fun j hj => by have := h.a.lt j hj; have := h.low; omega)⟩
    · exact (hgrow.block gr h.row.lt (fun e => by have := h.a.lt gr e.symm; omega)).trans h.row
    · unfold OwnI; rw [List.length_append, List.map_append]; exact hown
    · cases hb : vb.ownBlock with
      | none => exact .inl rfl
      | some j =>
        refine .inr ?_
        rcases h.dis with h1 | h1
        · rw [h1]; simp
        · rw [← hb]; exact Ne.symm h1
    · rcases hat with h1 | h1
      · rw [h1]; exact h.dis
      · rw [h1]
        refine .inr fun e => ?_
        have := h.b.lt _ e.symm
        omega
end Go.Proofs.Ythpjihiikkhcjaa
