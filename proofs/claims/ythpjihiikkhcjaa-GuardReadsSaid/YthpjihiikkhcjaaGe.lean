/-
  A part of the proofs of this seat: laws of the walk, or contracts of the functions that the statements reach. No conditions but those that each theorem names.
-/
import Derived.ProofKit
import Derived.OpenShut
import Derived.OrdersIn
import Derived.RangeFuncIn
import Derived.RangeFuncCalls
import Derived.ChangeKeysEq
import Derived.Test.YthpjihiikkhcjaaGa
import Derived.Test.YthpjihiikkhcjaaGc
import Derived.Test.YthpjihiikkhcjaaGd
namespace Go.Sp
open Go.RowKit Go.WideShapes
/-- What is told of a slice of whole numbers that came in. -/
def IsRow (k : IntKind) (w : World) (a : Option Addr) (len cap : Nat) (zs : List Int) : Prop :=
  (a = none ∧ len = 0 ∧ cap = 0 ∧ zs = []) ∨
  ∃ x, a = some x ∧ len ≤ cap ∧ cap ≤ maxLen ∧ zs.length = cap ∧ (∀ i, i < zs.length → w.cell? (x.add i) = some (.int k (zs.getD i 0))) ∧ ∀ n ∈ zs, (Lit.int k n).wf = true
/-- A slice value that reads as these numbers. -/
def Nums (w : World) (v : Value) (l : List Int) : Prop :=
  (v = .slice none 0 0 ∧ l = []) ∨
  ∃ g off cap, v = .slice (some ⟨g, off, none⟩) l.length cap ∧ l.length ≤ cap ∧ cap ≤ maxLen ∧ g < w.heap.size ∧ ∀ (i : Nat) (n : Int), l[i]? = some n → w.cell? ⟨g, off + i, none⟩ = some (.int .i64 n) ∧ -9223372036854775808 ≤ n ∧ n ≤ 9223372036854775807
theorem Nums.ext {w w' : World} {v : Value} {l : List Int} (h : Nums w v l) (e : Below w.heap.size w w') : Nums w' v l := by
  rcases h with h | ⟨g, off, cap, rfl, h1, h2, h3, h4⟩
  · exact .inl h
  · exact .inr ⟨g, off, cap, rfl, h1, h2, Nat.lt_of_lt_of_le h3 e.size, fun i n hi => ⟨(World.cell?_of_block (a := ⟨g, off + i, none⟩) (e.block g h3)).trans (h4 i n hi).1, (h4 i n hi).2⟩⟩
theorem addr_of_ok {P : Program} {W : World} {base : Nat} {t e : TypeId} (ht : P.underlying t = some (.slice e)) {x : Addr} {len cap : Nat} (h : Value.okWide P W .any base t (.slice (some x) len cap)) : ∃ g off, x = ⟨g, off, none⟩ ∧ g < W.heap.size := by
  simp only [Value.okWide, ht, Cell.okWide, Cell.ok] at h
  obtain ⟨_, _, _, hs, row, cells, hsh, _⟩ := h
  obtain ⟨g, off, spot⟩ := x
  simp only at hs
  subst hs
  refine ⟨g, off, rfl, ?_⟩
  unfold World.shape? at hsh
  rcases Nat.lt_or_ge g W.heap.size with h | h
  · exact h
  · simp [Array.getElem?_eq_none h] at hsh
theorem byt_of_row {P : Program} {W : World} {base : Nat} {t e : TypeId} (ht : P.underlying t = some (.slice e)) {a : Option Addr} {len cap : Nat} {zs : List Int} (hok : Value.okWide P W .any base t (.slice a len cap)) (h : IsRow .u8 W a len cap zs) :
    ∃ l : List UInt8, Byt W (.slice a len cap) l := by
  rcases h with ⟨rfl, rfl, rfl, _⟩ | ⟨x, rfl, hl, hm, hz, hc, hw⟩
  · exact ⟨[], Byt.nil _⟩
  · obtain ⟨g, off, rfl, hg⟩ := addr_of_ok ht hok
    have hlen : ((zs.take len).map b8).length = len := by simp; omega
    refine ⟨(zs.take len).map b8, .inr ⟨g, off, cap, by rw [hlen], by omega, hm, hg, fun i b hi => ?_⟩⟩
    have hi' : i < len := by rw [← hlen]; exact (List.getElem?_eq_some_iff.1 hi).1
    have hc' := hc i (by omega)
    rw [Addr.add_mid] at hc'
    rw [hc']
    have hzi : zs[i]? = some zs[i] := by simp
    rw [List.getElem?_map, List.getElem?_take, if_pos hi', hzi] at hi
    simp at hi
    have hwf := hw zs[i] (List.getElem_mem _)
    have hb := bounds_u8 hwf
    rw [← hi, List.getD_eq_getElem?_getD, hzi]
    congr 1
    simp only [Option.getD_some]
    rw [B_ofInt _ hb.1 (by omega)]
    congr 1
    unfold b8 UInt8.ofInt
    congr 1; omega
theorem nums_of_row {P : Program} {W : World} {base : Nat} {t e : TypeId} (ht : P.underlying t = some (.slice e)) {a : Option Addr} {len cap : Nat} {zs : List Int} (hok : Value.okWide P W .any base t (.slice a len cap)) (h : IsRow .i64 W a len cap zs) :
    ∃ l : List Int, Nums W (.slice a len cap) l := by
  rcases h with ⟨rfl, rfl, rfl, _⟩ | ⟨x, rfl, hl, hm, hz, hc, hw⟩
  · exact ⟨[], .inl ⟨rfl, rfl⟩⟩
  · obtain ⟨g, off, rfl, hg⟩ := addr_of_ok ht hok
    have hlen : (zs.take len).length = len := by simp; omega
    refine ⟨zs.take len, .inr ⟨g, off, cap, by rw [hlen], by omega, hm, hg, fun i n hi => ?_⟩⟩
    have hi' : i < len := by rw [← hlen]; exact (List.getElem?_eq_some_iff.1 hi).1
    have hc' := hc i (by omega)
    rw [Addr.add_mid] at hc'
    have hzi : zs[i]? = some zs[i] := by simp
    rw [List.getElem?_take, if_pos hi', hzi] at hi
    simp at hi
    subst hi
    have hwf := hw zs[i] (List.getElem_mem _)
    have hb := bounds_i64 hwf
    rw [hc', List.getD_eq_getElem?_getD, hzi]
    exact ⟨rfl, by omega, by omega⟩
theorem Nums.len {w : World} {v : Value} {l : List Int} (h : Nums w v l) : ∃ a cap, v = .slice a l.length cap ∧ l.length ≤ cap ∧ cap ≤ maxLen := by
  rcases h with ⟨rfl, rfl⟩ | ⟨g, off, cap, rfl, h1, h2, _⟩
  · exact ⟨none, 0, rfl, Nat.le_refl _, by unfold maxLen; omega⟩
  · exact ⟨_, cap, rfl, h1, h2⟩
theorem wf_i64 {n : Int} (h : (Lit.int .i64 n).wf = true) : -9223372036854775808 ≤ n ∧ n ≤ 9223372036854775807 := by
  have := bounds_i64 h; omega
theorem wf_u8 {n : Int} (h : (Lit.int .u8 n).wf = true) : 0 ≤ n ∧ n < 256 := by
  have := bounds_u8 h; omega
end Go.Sp
namespace Go.Sp
open Go.RowKit
def cutA (a : Option Addr) (cap lo : Nat) : Option Addr := if cap = lo then a else a.map fun x => x.add lo
def cutV (a : Option Addr) (cap lo hi : Nat) : Value := .slice (cutA a cap lo) (hi - lo) (cap - lo)
theorem cutV_own (a : Option Addr) (cap lo hi : Nat) (n : Nat) : (cutV a cap lo hi).ownBlock = (Value.slice a n cap).ownBlock := by
  unfold cutV cutA
  cases a with
  | none => split <;> rfl
  | some x =>
    split
    · rfl
    · simp [Value.ownBlock, Addr.add]
      split <;> rfl
theorem Byt.cut {w : World} {a : Option Addr} {L c : Nat} {l : List UInt8} (h : Byt w (.slice a L c) l) (lo hi : Nat) (h1 : lo ≤ hi) (h2 : hi ≤ l.length) : Byt w (cutV a c lo hi) ((l.take hi).drop lo) := by
  rcases h with ⟨h, rfl⟩ | ⟨g, off, cap, hv, k1, k2, k3, k4⟩
  · simp only [Value.slice.injEq] at h
    obtain ⟨rfl, rfl, rfl⟩ := h
    simp at h2
    subst h2
    obtain rfl : lo = 0 := by omega
    exact .inl ⟨by simp [cutV, cutA], by simp⟩
  · simp only [Value.slice.injEq] at hv
    obtain ⟨rfl, rfl, rfl⟩ := hv
    have hlen : ((l.take hi).drop lo).length = hi - lo := by simp; omega
    unfold cutV cutA
    by_cases hc : c = lo
    · rw [if_pos hc]
      refine .inr ⟨g, off, c - lo, by rw [hlen], by omega, by omega, k3, fun i b hi' => ?_⟩
      have := (List.getElem?_eq_some_iff.1 hi').1
      omega
    · rw [if_neg hc]
      refine .inr ⟨g, off + lo, c - lo, by rw [hlen]; simp [Addr.add_mid], by omega, by omega, k3, fun i b hi' => ?_⟩
      rw [List.getElem?_drop, List.getElem?_take] at hi'
      split at hi'
      · rw [Nat.add_assoc]; exact k4 _ _ hi'
      · cases hi'
/-- The facts on a slice type of one cell an element. -/
structure Sl1 (P : Program) (t e : TypeId) : Prop where
  sl : P.underlying t = some (.slice e)
  info : ∃ i, P.info? e = some i ∧ i.size = 1
theorem Sl1.elem {P : Program} {t e : TypeId} (h : Sl1 P t e) : P.elem t = e := by simp [Program.elem, h.sl]
section
variable {P : Program} {w : World} {ρ : Operand → Value} {d : Option Tmp} {ty t e : TypeId} {pos : String} {aft : Array Edge} {g : Option (Nat × Bool)} {x y z : Operand} {a : Option Addr} {len cap : Nat}
theorem run_sizeOf1 (hT : Sl1 P t e) : (sizeOf e).run P w = .ok 1 w := by
  obtain ⟨i, hi, hs⟩ := hT.info
  simp [sizeOf, typeInfo, hi, hs]
theorem r_slLH {k k' : IntKind} {lo hi : Nat} (hT : Sl1 P t e) (hx : ρ x = .slice a len cap) (hy : ρ y = .int k lo) (hz : ρ z = .int k' hi) (h1 : lo ≤ hi) (h2 : hi ≤ cap) :
    (execOp ρ ⟨d, .slice t x (some y) (some z) none, ty, pos, aft, g⟩).run P w = .ok (.value (cutV a cap lo hi)) w := by
  have h := run_slice_lh (P := P) w t a len cap (by rw [hT.elem]; exact hT.sl) k k' lo hi (by omega) (by omega) (by omega)
  rw [hT.elem, run_sizeOf1 hT] at h
  simp only [execOp, hx, Option.map_some, hy, hz, Option.map_none, Sem.run_bind]
  rw [run_sliceAt_slice w t _ _ _ _ (by rw [hT.elem]; exact hT.sl), h]
  simp [cutV, cutA, sliced]
theorem r_slH {k' : IntKind} {hi : Nat} (hT : Sl1 P t e) (hx : ρ x = .slice a len cap) (hz : ρ z = .int k' hi) (h2 : hi ≤ cap) :
    (execOp ρ ⟨d, .slice t x none (some z) none, ty, pos, aft, g⟩).run P w = .ok (.value (cutV a cap 0 hi)) w := by
  have h := run_slice_h (P := P) w t a len cap (by rw [hT.elem]; exact hT.sl) k' hi (by omega) (by omega)
  rw [hT.elem, run_sizeOf1 hT] at h
  simp only [execOp, hx, Option.map_some, hz, Option.map_none, Sem.run_bind]
  rw [run_sliceAt_slice w t _ _ _ _ (by rw [hT.elem]; exact hT.sl), h]
  simp [cutV, cutA, sliced]
theorem r_slL {k : IntKind} {lo : Nat} (hT : Sl1 P t e) (hx : ρ x = .slice a len cap) (hy : ρ y = .int k lo) (h2 : lo ≤ len) :
    (execOp ρ ⟨d, .slice t x (some y) none none, ty, pos, aft, g⟩).run P w = .ok (.value (cutV a cap lo len)) w := by
  have h := run_slice_l (P := P) w t a len cap (by rw [hT.elem]; exact hT.sl) k lo (by omega) (by omega)
  rw [hT.elem, run_sizeOf1 hT] at h
  simp only [execOp, hx, Option.map_some, hy, Option.map_none, Sem.run_bind]
  rw [run_sliceAt_slice w t _ _ _ _ (by rw [hT.elem]; exact hT.sl), h]
  simp [cutV, cutA, sliced]
end
theorem wpList_val {P : Program} {ops : Array Oper} {rest : List Oper} {o : Oper} {a : Act} {w w' : World} {Q : Exit → Act → World → Prop} {v : Value} (hg : o.guard = none) (hr : (execOp a.eval o).run P w = .ok (.value v) w')
    (h : wpList P ops Q rest (a.put o.dst v) w') : wpList P ops Q (o :: rest) a w :=
  wpList_plain hg fun K hK => by
    unfold Oper.wp
    rw [hr]
    exact hK _ _ h
end Go.Sp
namespace Go.Sp
open Go.RowKit
/-- The wide fence, or a round inside it. -/
def WideF (F : Fence) : Prop := F = Fence.wide ∨ ∃ l, F = Fence.wide.inRound l
theorem WideF.fn {F : Fence} (h : WideF F) (f : FuncId) : F.fn f := by rcases h with rfl | ⟨l, rfl⟩ <;> trivial
theorem WideF.depth {F : Fence} (h : WideF F) : F.depth.isSome = true → 1 ≤ 0 := by rcases h with rfl | ⟨l, rfl⟩ <;> (intro h; cases h)
theorem WideF.calls {F : Fence} (hF : WideF F) {n : Nat} {P : Program} {f : FuncId} {args : Array Value} {w : World} {R : Ending → World → Prop} (h : Calls P f args w R) : CallsIn F n P f args w R := by
  rcases hF with rfl | ⟨l, rfl⟩
  · exact callsIn_wide.2 h
  · exact CallsIn.inRound l (callsIn_wide.2 h)
def isDefer (o : Oper) : Bool := match o.op with | .defer _ => true | _ => false
theorem isDefer_no {o : Oper} (h : isDefer o = false) : ∀ c, o.op ≠ .defer c := fun c e => by simp [isDefer, e] at h
/-- What one operation's run is asked to give, inside the wide fence: a yield's round too. -/
def GivesI (F : Fence) (n : Nat) (P : Program) (post : Value → World → Prop) : Result Next → Prop
  | .ok (.value v) w => post v w
  | .ok .skip w => post undef w
  | .ok (.enter f args) w => CallsIn F (n - 1) P f args w fun e w' => ∃ v, e = .returned v ∧ post v w'
  | .ok (.round l f tmps assign body) w => RoundIn F (n - 1) P l f tmps assign body w fun e w' => ∃ v, e = .returned v ∧ post v w'
  | _ => False
section
variable {F : Fence} {n : Nat} {P : Program} {post : Value → World → Prop} {w : World}
theorem GivesI.mono {post' : Value → World → Prop} {r : Result Next} (h : GivesI F n P post r) (hp : ∀ v w, post v w → post' v w) : GivesI F n P post' r := by
  cases r with
  | ok x w' =>
    cases x <;> simp only [GivesI] at h ⊢
    case value v => exact hp _ _ h
    case skip => exact hp _ _ h
    case enter f args => exact h.mono fun e w'' ⟨v, he, hv⟩ => ⟨v, he, hp _ _ hv⟩
    case round l f tmps assign body => exact h.mono fun e w'' ⟨v, he, hv⟩ => ⟨v, he, hp _ _ hv⟩
  | halt x w' => exact h.elim
theorem noDefer_spec {l : List Oper} (h : l.all (fun o => !isDefer o) = true) (i : Nat) (o : Oper) (ho : l.toArray[i]? = some o) : isDefer o = false := by
  have := List.all_eq_true.1 h o (List.mem_of_getElem? (by simpa using ho))
  simpa using this
theorem wpIn_of_gives (hF : WideF F) {o : Oper} (hdf : isDefer o = false) {a : Act} {K : Act → World → Prop} {Q : Exit → Act → World → Prop}
    (h : GivesI F n P (fun v w' => K (a.put o.dst v) w') ((execOp a.eval o).run P w)) : o.wpIn F n P a w K Q := by
  refine ⟨fun f _ => hF.fn f, ?_⟩
  rw [Oper.semAt_eq _ _ _ (isDefer_no hdf)]
  generalize (execOp a.eval o).run P w = r at *
  cases r with
  | ok x w' =>
    cases x <;> simp only [GivesI, Oper.uponIn] at h ⊢
    case value v => exact h
    case skip => exact h
    case enter f args => exact ⟨fun h => absurd (hF.depth h) (by omega), h.mono fun e w'' ⟨v, he, hv⟩ => by subst he; exact hv⟩
    case round l f tmps assign body => exact ⟨fun h => absurd (hF.depth h) (by omega), h.mono fun e w'' ⟨v, he, hv⟩ => by subst he; exact hv⟩
  | halt x w' => exact h.elim
end
/-- The readers (hd) have their values in any world that comes; the others go in the text's order. -/
def stepsI (F : Fence) (n : Nat) (P : Program) (hd : Nat → Bool) (xh : Nat → Value) (Sc : World → Prop) (S : List Value → World → Prop) (fin : Act → World → Prop) : List Oper → Nat → Act → List Value → Prop
  | [], _, a, vs => ∀ u, S vs u → fin a u
  | o :: rest, i, a, vs =>
    if hd i then (∀ u, Sc u → (execOp a.eval o).run P u = .ok (.value (xh i)) u) ∧ stepsI F n P hd xh Sc S fin rest (i + 1) (a.put o.dst (xh i)) vs
    else (∀ u, S vs u → GivesI F n P (fun v u' => S (vs ++ [v]) u') ((execOp a.eval o).run P u)) ∧ ∀ v, stepsI F n P hd xh Sc S fin rest (i + 1) (a.put o.dst v) (vs ++ [v])
section
variable {F : Fence} {n : Nat} {P : Program} {ops : Array Oper} {hd : Nat → Bool} {xh : Nat → Value} {Sc : World → Prop} {S : List Value → World → Prop} {fin : Act → World → Prop}
theorem stepsI_split {x : Nat → Value} (hx : ∀ j, hd j = true → x j = xh j) : ∀ (l : List Oper) (k : Nat) (a : Act) (vs : List Value), stepsI F n P hd xh Sc S fin l k a vs →
    (∀ (j : Nat) (o : Oper), l[j]? = some o →
      if hd (k + j) then ∀ u, Sc u → (execOp (putsV x (l.take j) k a).eval o).run P u = .ok (.value (xh (k + j))) u
      else ∀ u, S (vs ++ tvl hd x (l.take j) k) u → GivesI F n P (fun v u' => S (vs ++ tvl hd x (l.take j) k ++ [v]) u') ((execOp (putsV x (l.take j) k a).eval o).run P u)) ∧
    (∀ u, S (vs ++ tvl hd x l k) u → fin (putsV x l k a) u)
  | [], k, a, vs, h => ⟨fun j o h => by simp at h, by simpa [tvl, putsV, stepsI] using h⟩
  | p :: l, k, a, vs, h => by
    unfold stepsI at h
    by_cases hk : hd k = true
    · rw [if_pos hk] at h
      obtain ⟨h1, h2⟩ := h
      rw [← hx k hk] at h2
      obtain ⟨h3, h4⟩ := stepsI_split hx l (k + 1) _ _ h2
      refine ⟨fun j o hj => ?_, ?_⟩
      · cases j with
        | zero => simp at hj; subst hj; rw [Nat.add_zero, if_pos hk]; exact h1
        | succ j =>
          have := h3 j o (by simpa using hj)
          rw [show k + 1 + j = k + (j + 1) by omega] at this
          simpa [tvl, hk, putsV] using this
      · simpa [tvl, hk, putsV] using h4
    · rw [if_neg hk] at h
      obtain ⟨h1, h2⟩ := h
      obtain ⟨h3, h4⟩ := stepsI_split hx l (k + 1) _ _ (h2 (x k))
      refine ⟨fun j o hj => ?_, ?_⟩
      · cases j with
        | zero => simp at hj; subst hj; rw [Nat.add_zero, if_neg hk]; simpa [tvl, putsV] using h1
        | succ j =>
          have := h3 j o (by simpa using hj)
          rw [show k + 1 + j = k + (j + 1) by omega] at this
          simpa [tvl, hk, putsV, List.append_assoc] using this
      · simpa [tvl, hk, putsV, List.append_assoc] using h4
end
section
variable {F : Fence} {N : Nat} {P : Program} {ops : Array Oper} {hd : Nat → Bool} {xh : Nat → Value} {Sc : World → Prop} {S : List Value → World → Prop} {Q : Exit → Act → World → Prop} {a : Act} {w : World}
theorem any_of_stepsI (hF : WideF F) (hnd : ∀ (i : Nat) (o : Oper), ops[i]? = some o → isDefer o = false) (hok : okH ops hd = true) (hS : ∀ vs u, S vs u → Sc u)
    (h : stepsI F N P hd xh Sc S (fun a' w' => Q .normal a' w') ops.toList 0 a []) :
    ∀ (fuel : Nat) (listed : Array Bool) (x : Nat → Value) (a1 : Act) (w1 : World), InvV ops (fun _ _ => True) w (fun _ _ _ => True) a listed x a1 w1 →
      (∀ j, hd j = true → x j = xh j) → (∃ n, (∀ j, j < ops.size → hd j = false → (listed.getD j false = true ↔ j < n)) ∧ n ≤ ops.size ∧ S (tvl hd x (ops.toList.take n) 0) w1) →
      (List.range ops.size).countP (fun i => !listed.getD i true) ≤ fuel → wpAnyIn F N P .any ops Q fuel listed a1 w1 := by
  obtain ⟨hokV, hH⟩ := okH_spec hok
  obtain ⟨hsel, hspec⟩ := okV_spec hokV
  have key : ∀ (listed : Array Bool), listed.size = ops.size → Region.ready .any ops listed = [] → ∀ j, j < ops.size → listed.getD j false = true := by
    intro listed hs hr j
    induction j using Nat.strongRecOn with
    | _ j ih =>
      intro hj
      cases hc : listed.getD j false with
      | true => rfl
      | false =>
        have : j ∈ Region.ready .any ops listed := mem_ready.2 ⟨by rw [getD_tf hs hj]; exact hc, ops[j], by simp [hj], fun e he hb => by
          have hlt := (hspec j ops[j] (by simp [hj])).1 e he hb
          exact ih e.on hlt (by omega)⟩
        rw [hr] at this; cases this
  have fin : ∀ (listed : Array Bool) (x : Nat → Value) (a1 : Act) (w1 : World), InvV ops (fun _ _ => True) w (fun _ _ _ => True) a listed x a1 w1 → (∀ j, hd j = true → x j = xh j) →
      (∃ n, (∀ j, j < ops.size → hd j = false → (listed.getD j false = true ↔ j < n)) ∧ n ≤ ops.size ∧ S (tvl hd x (ops.toList.take n) 0) w1) → (∀ j, j < ops.size → listed.getD j false = true) → Q .normal a1 w1 := by
    intro listed x a1 w1 inv hx ⟨n, hn, hns, hs⟩ hall
    rw [inv.all hokV hall]
    refine (stepsI_split hx _ _ _ _ h).2 w1 ?_
    rw [List.nil_append]
    rw [← tvl_skip ops.toList 0 n ops.size hns (fun j h1 h2 => by
      cases hj : hd j with
      | true => rfl
      | false => have := (hn j (by omega) hj).1 (hall j (by omega)); omega)] at hs
    rwa [List.take_of_length_le (by simp)] at hs
  intro fuel
  induction fuel with
  | zero =>
    intro listed x a1 w1 inv hx hN hc
    have hall : ∀ j, j < ops.size → listed.getD j false = true := fun j hj => by
      have h0 : (List.range ops.size).countP (fun i => !listed.getD i true) = 0 := by omega
      have := List.countP_eq_zero.1 h0 j (List.mem_range.2 hj)
      rw [← getD_tf inv.lsize hj]
      simpa using this
    refine ⟨?_, fin listed x a1 w1 inv hx hN hall⟩
    rw [List.eq_nil_iff_forall_not_mem]
    intro i hi
    have h1 := (mem_ready.1 hi).1
    obtain ⟨_, o, ho, _⟩ := mem_ready.1 hi
    have hio := (Array.getElem?_eq_some_iff.1 ho).1
    rw [getD_tf inv.lsize hio, hall i hio] at h1
    cases h1
  | succ fuel ih =>
    intro listed x a1 w1 inv hx hN hc
    refine ⟨fun hr => fin listed x a1 w1 inv hx hN (key listed inv.lsize hr), fun i hi => ?_⟩
    obtain ⟨hiu, o, ho, hall⟩ := mem_ready.1 hi
    have hio := (Array.getElem?_eq_some_iff.1 ho).1
    have hif : listed.getD i false = false := by rw [← getD_tf inv.lsize hio]; exact hiu
    have hsame := inv.same hokV ho hif hall
    have hst := (stepsI_split hx _ _ _ _ h).1 i o (by simpa using ho)
    rw [execOp_congr (ρ := (putsV x (ops.toList.take i) 0 a).eval) (ρ' := a1.eval) o (Region.noSelect_spec hsel i o · · ho) (fun y hy => (eval_same hsame y hy).symm), Nat.zero_add, List.nil_append] at hst
    have hcount : ∀ (l2 : Array Bool), l2 = listed.setIfInBounds i true → (List.range ops.size).countP (fun i => !l2.getD i true) ≤ fuel := by
      rintro l2 rfl
      have : (List.range ops.size).countP (fun j => !(listed.setIfInBounds i true).getD j true) < (List.range ops.size).countP (fun j => !listed.getD j true) := by
        refine countP_lt (i := i) (fun j _ hq => ?_) (List.mem_range.2 hio) (by simp only [hiu]; rfl) ?_
        · by_cases hj : j = i
          · subst hj; simp only [hiu]; rfl
          · rw [getD_set_ne true (Ne.symm hj)] at hq; exact hq
        · have : i < listed.size := by rw [inv.lsize]; exact hio
          simp [this]
      omega
    have hwant : Region.wanted o (yielded ops a1.tmps) = true := by unfold Region.wanted; rw [(hH i o ho).1]
    have hset : ∀ j, j ≠ i → (listed.setIfInBounds i true).getD j false = listed.getD j false := fun j hj => getD_set_ne false (Ne.symm hj)
    have hseti : (listed.setIfInBounds i true).getD i false = true := by
      have : i < listed.size := by rw [inv.lsize]; exact hio
      simp [this]
    obtain ⟨n, hn, hns, hs⟩ := hN
    unfold wpOpIn
    simp only [ho]
    rw [if_pos hwant]
    by_cases hh : hd i = true
    · rw [if_pos hh] at hst
      refine (wpIn_of_gives hF (hnd i o ho) ?_)
      rw [hst w1 (hS _ _ hs)]
      have hxe : (fun j => if j = i then xh i else x j) = x := by
        funext j; by_cases hj : j = i
        · subst hj; rw [if_pos rfl, hx _ hh]
        · rw [if_neg hj]
      have hi2 := inv.step hokV (fun _ _ _ _ _ => trivial) (fun _ _ _ _ _ _ => trivial) ho hif hall (v := xh i) (w2 := w1) trivial trivial
      rw [hxe] at hi2
      refine ih _ _ _ _ hi2 hx ⟨n, fun j hj hf => ?_, hns, hs⟩ (hcount _ rfl)
      rw [hset j (fun e => by rw [e, hh] at hf; cases hf)]
      exact hn j hj hf
    · have hhf : hd i = false := by simpa using hh
      rw [if_neg hh] at hst
      have hni : n ≤ i := by
        have := hn i hio hhf
        rw [hif] at this
        have : ¬ i < n := fun h => absurd (this.2 h) (by simp)
        omega
      have hbet : ∀ j, n ≤ j → j < i → hd j = true := by
        intro j h1 h2
        cases hj : hd j with
        | true => rfl
        | false =>
          obtain ⟨p, h3, h4, h5, h6, _⟩ := (hH i o ho).2 hhf j h2 hj
          obtain ⟨e, he1, he2⟩ := Array.any_eq_true'.1 h6
          simp only [Bool.and_eq_true, beq_iff_eq] at he2
          have hl := hall e he1 he2.1
          rw [he2.2] at hl
          have := (hn p (by omega) h5).1 hl
          omega
      rw [← tvl_skip ops.toList 0 n i hni (fun j h1 h2 => hbet j (by omega) (by omega))] at hs
      refine (wpIn_of_gives hF (hnd i o ho) ((hst w1 hs).mono fun v w2 hv => ?_))
      have hcg : tvl hd (fun j => if j = i then v else x j) (ops.toList.take i) 0 = tvl hd x (ops.toList.take i) 0 := tvl_congr _ _ fun j h1 h2 => by
        rw [if_neg]; simp at h2; omega
      refine ih _ _ _ _ (inv.step hokV (fun _ _ _ _ _ => trivial) (fun _ _ _ _ _ _ => trivial) ho hif hall (v := v) (w2 := w2) trivial trivial) (fun j hj => ?_) ⟨i + 1, fun j hj hf => ?_, hio, ?_⟩ (hcount _ rfl)
      · rw [if_neg (fun e => by rw [e, hhf] at hj; cases hj)]; exact hx j hj
      · by_cases hji : j = i
        · subst hji; simp [hseti]
        · rw [hset j hji, hn j hj hf]
          refine ⟨fun h => by omega, fun h => ?_⟩
          cases Nat.lt_or_ge j n with
          | inl h => exact h
          | inr h' => have := hbet j h' (by omega); rw [hf] at this; cases this
      · rw [tvl_snoc ops.toList 0 i o (by simpa using ho) (by simpa using hhf), hcg]
        simpa using hv
/-- A region that draws its order: the readers (hd) keep their values in any world that comes (Sc), the others wait for one another. -/
theorem wpIn_region_I (hF : WideF F) {id : Nat} {l : List Oper} (hd : Nat → Bool) (xh : Nat → Value) (Sc : World → Prop) (S : List Value → World → Prop) (hm : P.follows .mixedOrders = true) (hok : okH l.toArray hd = true) (hnd : l.all (fun o => !isDefer o) = true)
    (hS : ∀ vs u, S vs u → Sc u) (hw : S [] w.drew)
    (h : stepsI F N P hd xh Sc S (fun a' w' => Q .normal a' w') l 0 a []) : (Code.region id l.toArray true).wpIn F N P Q a w := by
  refine wpIn_region_any hm (any_of_stepsI (w := w) hF (noDefer_spec hnd) (a := a) (hd := hd) (xh := xh) (Sc := Sc) (S := S) hok hS (by simpa using h) _ _ xh _ _ ?_ (fun _ _ => rfl) ⟨0, ?_, by omega, by simpa [tvl] using hw⟩ ?_)
  · refine ⟨by simp, trivial, ?_, rfl, rfl, ?_, fun _ _ => rfl, ?_⟩
    · intro j o _ hl; simp [Array.getElem?_replicate] at hl
      split at hl <;> simp at hl
    · intro j o t _ _ hl; simp [Array.getElem?_replicate] at hl
      split at hl <;> simp at hl
    · intro j _ hl; simp [Array.getElem?_replicate] at hl
      split at hl <;> simp at hl
  · intro j hj _
    have : j < l.length := by simpa using hj
    simp [this]
  · refine Nat.le_trans List.countP_le_length ?_
    simp
end
/-- stepsI over a frame and what has come since. -/
def stepsIE (F : Fence) (n : Nat) (P : Program) (hd : Nat → Bool) (xh : Nat → Value) (Sc : World → Prop) (S : List Value → World → Prop) (a : Act) (fin : Act → World → Prop) : List Oper → Nat → Env → List Value → Prop
  | [], _, e, vs => ∀ u, S vs u → fin (withEnv a e) u
  | o :: rest, i, e, vs =>
    if hd i then (∀ u, Sc u → (execOp (rhoE a e) o).run P u = .ok (.value (xh i)) u) ∧ stepsIE F n P hd xh Sc S a fin rest (i + 1) (pushE o.dst (xh i) e) vs
    else (∀ u, S vs u → GivesI F n P (fun v u' => S (vs ++ [v]) u') ((execOp (rhoE a e) o).run P u)) ∧ ∀ v, stepsIE F n P hd xh Sc S a fin rest (i + 1) (pushE o.dst v e) (vs ++ [v])
section
variable {F : Fence} {n : Nat} {P : Program} {hd : Nat → Bool} {xh : Nat → Value} {Sc : World → Prop} {S : List Value → World → Prop} {a : Act} {fin : Act → World → Prop}
theorem stepsI_of_E : ∀ (l : List Oper) (i : Nat) (e : Env) (vs : List Value), (∀ p ∈ e, p.1 < a.tmps.size) → (l.all (fun o => match o.dst with | some d => decide (d < a.tmps.size) | none => true) = true) →
    stepsIE F n P hd xh Sc S a fin l i e vs → stepsI F n P hd xh Sc S fin l i (withEnv a e) vs
  | [], _, _, _, _, _, h => h
  | o :: l, i, e, vs, he, hl, h => by
    simp only [List.all_cons, Bool.and_eq_true] at hl
    have hput : ∀ v, (withEnv a e).put o.dst v = withEnv a (pushE o.dst v e) := fun v => by cases o.dst <;> rfl
    have hb : ∀ v, ∀ p ∈ pushE o.dst v e, p.1 < a.tmps.size := fun v => by
      cases hd : o.dst with
      | none => exact he
      | some d =>
        intro p hp
        simp only [pushE, List.mem_cons] at hp
        rcases hp with rfl | hp
        · have := hl.1; rw [hd] at this; simpa using this
        · exact he p hp
    unfold stepsIE at h
    unfold stepsI
    by_cases hh : hd i = true
    · rw [if_pos hh] at h
      rw [if_pos hh, eval_withEnv a e he, hput]
      exact ⟨h.1, stepsI_of_E l _ _ _ (hb _) hl.2 h.2⟩
    · rw [if_neg hh] at h
      rw [if_neg hh, eval_withEnv a e he]
      refine ⟨h.1, fun v => ?_⟩
      rw [hput]
      exact stepsI_of_E l _ _ _ (hb _) hl.2 (h.2 v)
theorem wpIn_region_IE (hF : WideF F) {w : World} {Q : Exit → Act → World → Prop} {id : Nat} {l : List Oper} (hd : Nat → Bool) (xh : Nat → Value) (Sc : World → Prop) (S : List Value → World → Prop) (hm : P.follows .mixedOrders = true) (hok : okH l.toArray hd = true) (hnd : l.all (fun o => !isDefer o) = true)
    (hsz : l.all (fun o => match o.dst with | some d => decide (d < a.tmps.size) | none => true) = true) (hS : ∀ vs u, S vs u → Sc u) (hw : S [] w.drew)
    (h : stepsIE F n P hd xh Sc S a (fun a' w' => Q .normal a' w') l 0 [] []) : (Code.region id l.toArray true).wpIn F n P Q a w :=
  wpIn_region_I hF hd xh Sc S hm hok hnd hS hw (stepsI_of_E (a := a) l 0 [] [] (fun _ h => by cases h) hsz h)
variable {rest : List Oper} {i d : Nat} {e : Env} {vs : List Value} {op : Op} {ty : TypeId} {pos : String} {aft : Array Edge} {gd : Option (Nat × Bool)}
theorem IE_head {v : Value} (hh : hd i = true) (hv : xh i = v) (h : ∀ u, Sc u → (execOp (rhoE a e) ⟨some d, op, ty, pos, aft, gd⟩).run P u = .ok (.value v) u) (k : stepsIE F n P hd xh Sc S a fin rest (i + 1) ((d, v) :: e) vs) : stepsIE F n P hd xh Sc S a fin (⟨some d, op, ty, pos, aft, gd⟩ :: rest) i e vs := by
  subst hv
  unfold stepsIE; rw [if_pos hh]; exact ⟨h, k⟩
theorem IE_run (hh : hd i = false) (h : ∀ u, S vs u → ∃ v u', (execOp (rhoE a e) ⟨some d, op, ty, pos, aft, gd⟩).run P u = .ok (.value v) u' ∧ S (vs ++ [v]) u') (k : ∀ v, stepsIE F n P hd xh Sc S a fin rest (i + 1) ((d, v) :: e) (vs ++ [v])) : stepsIE F n P hd xh Sc S a fin (⟨some d, op, ty, pos, aft, gd⟩ :: rest) i e vs := by
  unfold stepsIE; rw [if_neg (by simp [hh])]
  refine ⟨fun u hu => ?_, k⟩
  obtain ⟨v, u', hr, hs⟩ := h u hu
  rw [hr]; exact hs
theorem IE_call (hF : WideF F) {f : FuncId} {args : Array Value} (hh : hd i = false) (hr : ∀ u, (execOp (rhoE a e) ⟨some d, op, ty, pos, aft, gd⟩).run P u = .ok (.enter f args) u) (h : ∀ u, S vs u → Calls P f args u fun e u' => ∃ v, e = .returned v ∧ S (vs ++ [v]) u') (k : ∀ v, stepsIE F n P hd xh Sc S a fin rest (i + 1) ((d, v) :: e) (vs ++ [v])) : stepsIE F n P hd xh Sc S a fin (⟨some d, op, ty, pos, aft, gd⟩ :: rest) i e vs := by
  unfold stepsIE; rw [if_neg (by simp [hh])]
  refine ⟨fun u hu => ?_, k⟩
  rw [hr]; exact hF.calls (h u hu)
theorem IE_round (hh : hd i = false) (h : ∀ u, S vs u → ∃ l f tmps assign body, (execOp (rhoE a e) ⟨some d, op, ty, pos, aft, gd⟩).run P u = .ok (.round l f tmps assign body) u ∧ RoundIn F (n - 1) P l f tmps assign body u fun e u' => ∃ v, e = .returned v ∧ S (vs ++ [v]) u') (k : ∀ v, stepsIE F n P hd xh Sc S a fin rest (i + 1) ((d, v) :: e) (vs ++ [v])) : stepsIE F n P hd xh Sc S a fin (⟨some d, op, ty, pos, aft, gd⟩ :: rest) i e vs := by
  unfold stepsIE; rw [if_neg (by simp [hh])]
  refine ⟨fun u hu => ?_, k⟩
  obtain ⟨l, f, tmps, assign, body, hr, h⟩ := h u hu
  rw [hr]; exact h
theorem IE_nil (h : ∀ u, S vs u → fin (withEnv a e) u) : stepsIE F n P hd xh Sc S a fin [] i e vs := h
end
attribute [irreducible] stepsIE
end Go.Sp
namespace Go.Sp
open Go.RowKit
section
variable {P : Program} {w : World} {ρ : Operand → Value} {d : Option Tmp} {ty t t' : TypeId} {pos : String} {aft : Array Edge} {g : Option (Nat × Bool)} {x y : Operand}
theorem r_storeBlk {n : Nat} {z out : Array Value} {tb : TypeId} (hx : ρ x = .pointer (some ⟨n, 0, none⟩)) (hy : ρ y = .agg out) (hR : Blk w n z tb) (hz : z.size = out.size) (hi : (P.info? t).map (·.size) = some out.size) (h1 : out.all (·.oneCell') = true) :
    ∃ w', (execOp ρ ⟨d, .store t x y, ty, pos, aft, g⟩).run P w = .ok .skip w' ∧ Blk w' n out tb ∧ Only n w w' ∧ w' = w.setCells n 0 out.toList := by
  refine ⟨w.setCells n 0 out.toList, ?_, ?_, (Only.refl n w).setCells _ _ (.inl rfl), rfl⟩
  · unfold execOp
    simp only [hx, hy, Instr.storeAt, Instr.sureAddr, Sem.run_bind, Sem.run_pure, Result.andThen_ok, run_storeVar_mid w n 0 t out (fun j hj => ⟨by rw [hR.cell]; simp; omega, hR.frozen _⟩) hi h1]
  · have := hR.setCells out.toList 0
    rw [putL_all _ _ (by rw [Array.length_toList, hz])] at this
    simpa using this
theorem r_loadBlk {n : Nat} {cs : Array Value} {tb : TypeId} {dsc : TypeDesc} (hx : ρ x = .pointer (some ⟨n, 0, none⟩)) (hR : Blk w n cs tb) (hu : P.underlying t = some dsc) (hd : dsc.isRow = true) (hi : (P.info? t).map (·.size) = some cs.size) :
    (execOp ρ ⟨d, .load t x, ty, pos, aft, g⟩).run P w = .ok (.value (.agg cs)) w := by
  have hr : w.rangeAt n 0 cs.toList := fun j v hj => by
    rw [hR.cell, Nat.zero_add]; simpa using hj
  have := run_loadAt_mid (P := P) w n 0 t cs.toList dsc hr hu hd (by simpa using hi)
  unfold execOp
  simp only [hx, Sem.run_bind, this, Result.andThen_ok, Sem.run_pure]
def oneS (P : Program) (t : TypeId) : Bool := match P.info? t with | some i => i.size == 1 | none => false
theorem r_store1 {b o : Nat} {v : Value} (hx : ρ x = .pointer (some ⟨b, o, none⟩)) (hy : ρ y = v) (ht : oneS P t = true) (hc : (w.cell? ⟨b, o, none⟩).isSome = true) (hf : w.frozen? ⟨b, o, none⟩ = false) (ho : v.oneCell' = true) :
    (execOp ρ ⟨d, .store t x y, ty, pos, aft, g⟩).run P w = (.ok .skip (w.setCell ⟨b, o, none⟩ v)) := by
  unfold oneS at ht
  cases hi : P.info? t with
  | none => simp [hi] at ht
  | some inf =>
    simp [hi] at ht
    obtain ⟨u, hu'⟩ := Option.isSome_iff_exists.1 hc
    have hcs : v.cells = #[v] := by cases v <;> simp_all [Value.oneCell', Value.cells]
    have hst : (store ⟨b, o, none⟩ v).run P w = .ok () (w.setCell ⟨b, o, none⟩ v) := by rw [run_store _ _ _ _ _ ho, hu']; simp [hf]
    simp [execOp, hx, hy, Instr.storeAt, Instr.sureAddr, storeVar, sizeOf, typeInfo, hi, ht, hcs, storeCells, Addr.add_mid, hst]
end
end Go.Sp
namespace Go.Sp
open Go.RowKit
section
variable {F : Fence} {n : Nat} {P : Program} {ops : Array Oper} {Q : Exit → Act → World → Prop} {a : Act} {w w' : World} {rest : List Oper} {o : Oper} {v : Value}
theorem wpListIn_gives (hF : WideF F) (hg : o.guard = none) (hd : isDefer o = false) (h : GivesI F n P (fun v w' => wpListIn F n P ops Q rest (a.put o.dst v) w') ((execOp a.eval o).run P w)) : wpListIn F n P ops Q (o :: rest) a w :=
  wpListIn_plain hg fun _ hK => wpIn_of_gives hF hd (h.mono fun _ _ h => hK _ _ h)
theorem wpListIn_skp (hF : WideF F) (hg : o.guard = none) (hd : isDefer o = false) (hr : (execOp a.eval o).run P w = .ok .skip w') (h : wpListIn F n P ops Q rest (a.put o.dst undef) w') : wpListIn F n P ops Q (o :: rest) a w :=
  wpListIn_gives hF hg hd (by rw [hr]; exact h)
theorem wpListIn_val (hF : WideF F) (hg : o.guard = none) (hd : isDefer o = false) (hr : (execOp a.eval o).run P w = .ok (.value v) w') (h : wpListIn F n P ops Q rest (a.put o.dst v) w') : wpListIn F n P ops Q (o :: rest) a w :=
  wpListIn_gives hF hg hd (by rw [hr]; exact h)
end
end Go.Sp
namespace Go.Sp
open Go.RowKit
/-- An array type of n whole numbers. -/
structure ArrI (P : Program) (t : TypeId) (n : Nat) (k : IntKind) : Prop where
  ok : ∃ e, P.underlying t = some (.array n e) ∧ P.cellsOf e = 1 ∧ P.plainKey e = true ∧ P.underlying e = some (.int k)
  guard : P.eqGuardType P.depth t = false
theorem run_eqItems_ints {P : Program} (w : World) (d : Nat) {e : TypeId} {k : IntKind} (he : P.plainKey e = true) (hu : P.underlying e = some (.int k)) (lx ly : List Int) : ∀ is : List Nat, (∀ i ∈ is, i < lx.length ∧ i < ly.length) →
    (Op.eqItems (d + 1) e 1 (lx.map (.int k)).toArray (ly.map (.int k)).toArray is).run P w = .ok (is.all fun i => lx[i]? == ly[i]?) w
  | [], _ => by simp [Op.eqItems]
  | i :: is, h => by
    obtain ⟨h1, h2⟩ := h i (List.mem_cons_self ..)
    have ih := run_eqItems_ints w d he hu lx ly is fun j hj => h j (List.mem_cons_of_mem _ hj)
    simp only [Op.eqItems, Nat.mul_one, Sem.run_bind]
    rw [run_part_plain w he (v := .int k lx[i]) (by simp [h1]), Result.andThen_ok, run_part_plain w he (v := .int k ly[i]) (by simp [h2]), Result.andThen_ok, run_equalIn_int w d e k k _ _ hu, Result.andThen_ok]
    by_cases hxy : lx[i] = ly[i]
    · simp [hxy, h1, h2, ih]
    · simp [hxy, h1, h2]
theorem run_eql_ints {P : Program} (w : World) {t : TypeId} {n : Nat} {k : IntKind} (hA : ArrI P t n k) (lx ly : List Int) (hx : lx.length = n) (hy : ly.length = n) :
    (binOp .eql t (.agg (lx.map (.int k)).toArray) (.agg (ly.map (.int k)).toArray)).run P w = .ok (.bool (lx == ly)) w := by
  obtain ⟨e, hu, hc, hp, hue⟩ := hA.ok
  obtain ⟨i, hi⟩ := info_of_underlying hue
  rw [run_eql_struct, run_equalIn_array w 9999 _ _ hu hi, hc, run_eqItems_ints w 9998 hp hue lx ly _ (fun i hi => by have := List.mem_range.1 hi; omega), Result.andThen_ok]
  congr 2
  rw [Bool.eq_iff_iff, List.all_eq_true, beq_iff_eq]
  constructor
  · intro h
    apply List.ext_getElem?
    intro j
    by_cases hj : j < n
    · simpa using h j (List.mem_range.2 hj)
    · rw [List.getElem?_eq_none (by omega), List.getElem?_eq_none (by omega)]
  · rintro rfl j _; simp
theorem mapB_ints (l : List UInt8) : l.map B = (l.map Ub).map (.int .u8) := by simp [B]
theorem mapUb_beq (l m : List UInt8) : (l.map Ub == m.map Ub) = (l == m) := by
  rw [Bool.eq_iff_iff, beq_iff_eq, beq_iff_eq]
  exact ⟨fun h => (List.map_inj_right fun x y h => (Ub_inj x y).1 h).1 h, fun h => by rw [h]⟩
section
variable {P : Program} {w : World} {ρ : Operand → Value} {d : Option Tmp} {ty t t' : TypeId} {pos : String} {aft : Array Edge} {g : Option (Nat × Bool)} {x y z : Operand}
theorem r_eqlA {n : Nat} {k : IntKind} (hA : ArrI P t n k) {lx ly : List Int} (hx : ρ x = .agg (lx.map (.int k)).toArray) (hy : ρ y = .agg (ly.map (.int k)).toArray) (hlx : lx.length = n) (hly : ly.length = n) :
    (execOp ρ ⟨d, .binOp .eql t x y t', ty, pos, aft, g⟩).run P w = .ok (.value (.bool (lx == ly))) w := by
  have h1 := run_eqGuard_agg (P := P) w .eql t x y (lx.map (.int k)).toArray (ly.map (.int k)).toArray hA.guard
  have h2 := run_eql_ints (P := P) w hA lx ly hlx hly
  simp only [execOp, hx, hy, Sem.run_bind, h1, h2, Result.andThen_ok, Sem.run_pure]
theorem r_eqlB {n : Nat} (hA : ArrI P t n .u8) {lx ly : List UInt8} (hx : ρ x = .agg (lx.map B).toArray) (hy : ρ y = .agg (ly.map B).toArray) (hlx : lx.length = n) (hly : ly.length = n) :
    (execOp ρ ⟨d, .binOp .eql t x y t', ty, pos, aft, g⟩).run P w = .ok (.value (.bool (lx == ly))) w := by
  rw [← mapUb_beq]
  exact r_eqlA hA (by rw [hx, mapB_ints]) (by rw [hy, mapB_ints]) (by simpa) (by simpa)
theorem r_pick {a : Bool} {v : Value} (hx : ρ x = .bool a) (hv : (if a then ρ y else ρ z) = v) : (execOp ρ ⟨d, .pick x y z, ty, pos, aft, g⟩).run P w = .ok (.value v) w := by
  subst hv
  simp [execOp, hx, asBool]
theorem r_not {a : Bool} (hx : ρ x = .bool a) : (execOp ρ ⟨d, .unOp .not t x, ty, pos, aft, g⟩).run P w = .ok (.value (.bool (!a))) w := by
  simp [execOp, hx, Op.unary]
theorem r_eqlI {k : IntKind} {a b : Int} (hx : ρ x = .int k a) (hy : ρ y = .int k b) : (execOp ρ ⟨d, .binOp .eql t x y t', ty, pos, aft, g⟩).run P w = .ok (.value (.bool (a == b))) w :=
  r_bin hx hy rfl (by simp [binOp, Op.intCmp])
end
end Go.Sp
namespace Go.Sp
open Go.RowKit
/-- The world grows; what lay below n is as it was; no cell turns (a row of type bt may be marked). -/
structure ExtM (bt : TypeId) (n : Nat) (u u' : World) : Prop where
  below : Below n u u'
  keep : ∀ (g : Nat) (cs : Array Value) (t : TypeId) (fr : Nat × Nat), u.heap[g]? = some (.cells cs t fr) → ∃ fr', u'.heap[g]? = some (.cells cs t fr') ∧ (t ≠ bt → fr' = fr)
theorem ExtM.refl (bt : TypeId) (n : Nat) (u : World) : ExtM bt n u u := ⟨Below.refl _ _, fun _ _ _ fr h => ⟨fr, h, fun _ => rfl⟩⟩
theorem ExtM.trans {bt : TypeId} {n : Nat} {a b c : World} (h : ExtM bt n a b) (k : ExtM bt n b c) : ExtM bt n a c := ⟨h.below.trans k.below, fun g cs t fr hg => by
  obtain ⟨f1, h1, e1⟩ := h.keep g cs t fr hg
  obtain ⟨f2, h2, e2⟩ := k.keep g cs t f1 h1
  exact ⟨f2, h2, fun ht => (e2 ht).trans (e1 ht)⟩⟩
theorem ExtM.drew (bt : TypeId) (n : Nat) (w : World) : ExtM bt n w w.drew := ⟨(Below.refl _ _).drew, fun _ _ _ fr h => ⟨fr, h, fun _ => rfl⟩⟩
theorem ExtM.of {bt : TypeId} {n : Nat} {u u' : World} (h : Below u.heap.size u u') (hn : n ≤ u.heap.size) : ExtM bt n u u' := ⟨h.mono hn, fun g _ _ fr hg => ⟨fr, (h.block g (Array.getElem?_eq_some_iff.1 hg).1).trans hg, fun _ => rfl⟩⟩
theorem ExtM.cell {bt : TypeId} {n : Nat} {u u' : World} (h : ExtM bt n u u') {a : Addr} {v : Value} (hc : u.cell? a = some v) : u'.cell? a = some v := by
  unfold World.cell? at *
  cases hg : u.heap[a.block]? with
  | none => simp [hg] at hc
  | some o =>
    cases o <;> simp [hg] at hc
    rename_i cs t fr
    obtain ⟨f', h', _⟩ := h.keep _ cs t fr hg
    simpa [h'] using hc
def wantE (ops : Array Oper) (a : Act) (e : Env) (o : Oper) : Bool :=
  match o.guard with
  | none => true
  | some (g, b) => match (ops[g]?).bind (·.dst) with
    | some t => (match rhoE a e (.tmp t) with | .bool c => c == b | _ => false)
    | none => false
theorem wanted_E {ops : Array Oper} {a : Act} {e : Env} {o : Oper} (he : ∀ p ∈ e, p.1 < a.tmps.size) : Region.wanted o (yielded ops (withEnv a e).tmps) = wantE ops a e o := by
  unfold Region.wanted wantE
  cases hg : o.guard with
  | none => rfl
  | some gb =>
    obtain ⟨g, b⟩ := gb
    simp only [yielded]
    cases ht : (ops[g]?).bind (·.dst) with
    | none => simp
    | some t =>
      have h1 : rhoE a e (.tmp t) = ((withEnv a e).tmps[t]?).getD undef := by
        rw [← eval_withEnv a e he]; simp [Act.eval]
      simp only [h1, Option.bind_some]
      cases hv : (withEnv a e).tmps[t]? with
      | none => simp; rfl
      | some v => cases v <;> simp
def feedB (ops : Array Oper) (o : Oper) (j : Nat) : Bool :=
  match ops[j]? with
  | some p => (match p.dst with | some d => (o.looksAt ops).contains d | none => false)
  | none => false
/-- One walk in the text's order over a frame and what has come since. The exact ones (ex) have their values (c); of the others x tells. -/
def stepsVE (bt : TypeId) (P : Program) (ops : Array Oper) (w : World) (ex : Nat → Bool) (c : Nat → Value) (V : Nat → Value → World → Prop) (x : Nat → Value) (a : Act) (fin : Act → World → Prop) : List Oper → Nat → Env → Prop
  | [], _, e => ∀ w1, ExtM bt w.heap.size w w1 → (∀ j, j < ops.size → ex j = false → V j (x j) w1) → fin (withEnv a e) w1
  | o :: rest, i, e =>
    wantE ops a e o = true ∧ (∀ w1, ExtM bt w.heap.size w w1 → (∀ j, feedB ops o j = true → j < i → ex j = false → V j (x j) w1) → Gives P (fun v w2 => ExtM bt w.heap.size w1 w2 ∧ if ex i then v = c i else V i v w2) ((execOp (rhoE a e) o).run P w1)) ∧
    stepsVE bt P ops w ex c V x a fin rest (i + 1) (pushE o.dst (if ex i then c i else x i) e)
section
variable {bt : TypeId} {P : Program} {ops : Array Oper} {w : World} {ex : Nat → Bool} {c : Nat → Value} {V : Nat → Value → World → Prop} {x : Nat → Value} {a : Act} {fin : Act → World → Prop}
theorem stepsV_of_E (hx : ∀ j, ex j = true → x j = c j) : ∀ (l : List Oper) (i : Nat) (e : Env), (∀ p ∈ e, p.1 < a.tmps.size) → (l.all (fun o => match o.dst with | some d => decide (d < a.tmps.size) | none => true) = true) →
    stepsVE bt P ops w ex c V x a fin l i e → stepsV P ops (ExtM bt w.heap.size) w (fun i v u => if ex i then v = c i else V i v u) x fin l i (withEnv a e)
  | [], _, _, _, _, h => fun w1 h1 h2 => h w1 h1 fun j hj he => by simpa [he] using h2 j hj
  | o :: l, i, e, he, hl, h => by
    simp only [List.all_cons, Bool.and_eq_true] at hl
    obtain ⟨h1, h2, h3⟩ := h
    have hput : ∀ v, (withEnv a e).put o.dst v = withEnv a (pushE o.dst v e) := fun v => by cases o.dst <;> rfl
    have hb : ∀ v, ∀ p ∈ pushE o.dst v e, p.1 < a.tmps.size := fun v => by
      cases hd : o.dst with
      | none => exact he
      | some d =>
        intro p hp
        simp only [pushE, List.mem_cons] at hp
        rcases hp with rfl | hp
        · have := hl.1; rw [hd] at this; simpa using this
        · exact he p hp
    have hxi : (if ex i then c i else x i) = x i := by
      by_cases hh : ex i = true
      · rw [if_pos hh, hx i hh]
      · rw [if_neg hh]
    rw [hxi] at h3
    refine ⟨fun w1 hw1 hf => ?_, ?_⟩
    · rw [wanted_E he, if_pos h1, eval_withEnv a e he]
      refine h2 w1 hw1 fun j hj hlt hej => ?_
      have := hf j (by
        unfold feedB at hj
        refine List.mem_filter.2 ⟨List.mem_range.2 ?_, ?_⟩
        · cases hp : ops[j]? with
          | none => simp [hp] at hj
          | some p => exact (Array.getElem?_eq_some_iff.1 hp).1
        · cases hp : ops[j]? with
          | none => simp [hp] at hj
          | some p => cases hd : p.dst <;> simp_all) hlt
      simpa [hej] using this
    · rw [hput]
      exact stepsV_of_E hx l _ _ (hb _) hl.2 h3
theorem wp_region_VE {Q : Exit → Act → World → Prop} {id : Nat} {l : List Oper} (ex : Nat → Bool) (c : Nat → Value) (V : Nat → Value → World → Prop) (hm : P.follows .mixedOrders = true) (hok : okV l.toArray = true)
    (hsz : l.all (fun o => match o.dst with | some d => decide (d < a.tmps.size) | none => true) = true) (hmono : ∀ j v u u', ExtM bt w.heap.size u u' → V j v u → V j v u')
    (h : ∀ x, stepsVE bt P l.toArray w ex c V x a (fun a' w' => Q .normal a' w') l 0 []) : (Code.region id l.toArray true).wp P Q a w :=
  wp_region_K (R := ExtM bt w.heap.size) (fun i v u => if ex i then v = c i else V i v u) ex c (fun j v u hj hv => by simpa [hj] using hv) hm hok (ExtM.refl _ _) (fun _ _ _ => ExtM.trans) (ExtM.drew _ _ w)
    (fun j v u u' hu hv => by
      by_cases hj : ex j = true
      · rw [if_pos hj] at *; exact hv
      · rw [if_neg hj] at *; exact hmono j v u u' hu hv)
    fun x hx => stepsV_of_E (a := a) hx l 0 [] (fun _ h => by cases h) hsz (h x)
variable {rest : List Oper} {i d : Nat} {e : Env} {op : Op} {ty : TypeId} {pos : String} {aft : Array Edge} {gd : Option (Nat × Bool)}
/-- An operation whose value is told, and that turns nothing. -/
theorem VE_ex {v : Value} (hx : ex i = true) (hc : c i = v) (hw : wantE ops a e ⟨some d, op, ty, pos, aft, gd⟩ = true)
    (h : ∀ w1, ExtM bt w.heap.size w w1 → (∀ j, feedB ops ⟨some d, op, ty, pos, aft, gd⟩ j = true → j < i → ex j = false → V j (x j) w1) → (execOp (rhoE a e) ⟨some d, op, ty, pos, aft, gd⟩).run P w1 = .ok (.value v) w1)
    (k : stepsVE bt P ops w ex c V x a fin rest (i + 1) ((d, v) :: e)) : stepsVE bt P ops w ex c V x a fin (⟨some d, op, ty, pos, aft, gd⟩ :: rest) i e := by
  subst hc
  refine ⟨hw, fun w1 h1 h2 => ?_, by simpa [hx, pushE] using k⟩
  rw [h w1 h1 h2]
  exact ⟨ExtM.refl _ _ _, by simp [hx]⟩
/-- A call whose result is told. -/
theorem VE_call {v : Value} {f : FuncId} {args : Array Value} (hx : ex i = true) (hc : c i = v) (hw : wantE ops a e ⟨some d, op, ty, pos, aft, gd⟩ = true)
    (hr : ∀ w1, (execOp (rhoE a e) ⟨some d, op, ty, pos, aft, gd⟩).run P w1 = .ok (.enter f args) w1)
    (h : ∀ w1, ExtM bt w.heap.size w w1 → (∀ j, feedB ops ⟨some d, op, ty, pos, aft, gd⟩ j = true → j < i → ex j = false → V j (x j) w1) → Calls P f args w1 fun e' w2 => e' = .returned v ∧ ExtM bt w.heap.size w1 w2)
    (k : stepsVE bt P ops w ex c V x a fin rest (i + 1) ((d, v) :: e)) : stepsVE bt P ops w ex c V x a fin (⟨some d, op, ty, pos, aft, gd⟩ :: rest) i e := by
  subst hc
  refine ⟨hw, fun w1 h1 h2 => ?_, by simpa [hx, pushE] using k⟩
  rw [hr w1]
  exact (h w1 h1 h2).mono fun e' w2 ⟨he, hw⟩ => ⟨_, he, hw, by simp [hx]⟩
/-- An operation of which V tells. -/
theorem VE_any (hx : ex i = false) (hw : wantE ops a e ⟨some d, op, ty, pos, aft, gd⟩ = true)
    (h : ∀ w1, ExtM bt w.heap.size w w1 → (∀ j, feedB ops ⟨some d, op, ty, pos, aft, gd⟩ j = true → j < i → ex j = false → V j (x j) w1) → ∃ v w2, (execOp (rhoE a e) ⟨some d, op, ty, pos, aft, gd⟩).run P w1 = .ok (.value v) w2 ∧ ExtM bt w.heap.size w1 w2 ∧ V i v w2)
    (k : stepsVE bt P ops w ex c V x a fin rest (i + 1) ((d, x i) :: e)) : stepsVE bt P ops w ex c V x a fin (⟨some d, op, ty, pos, aft, gd⟩ :: rest) i e := by
  refine ⟨hw, fun w1 h1 h2 => ?_, by simpa [hx, pushE] using k⟩
  obtain ⟨v, w2, hr, h3, h4⟩ := h w1 h1 h2
  rw [hr]
  exact ⟨h3, by simpa [hx] using h4⟩
theorem VE_callp {f : FuncId} {args : Array Value} (hx : ex i = false) (hw : wantE ops a e ⟨some d, op, ty, pos, aft, gd⟩ = true)
    (hr : ∀ w1, (execOp (rhoE a e) ⟨some d, op, ty, pos, aft, gd⟩).run P w1 = .ok (.enter f args) w1)
    (h : ∀ w1, ExtM bt w.heap.size w w1 → (∀ j, feedB ops ⟨some d, op, ty, pos, aft, gd⟩ j = true → j < i → ex j = false → V j (x j) w1) → Calls P f args w1 fun e' w2 => ∃ v, e' = .returned v ∧ ExtM bt w.heap.size w1 w2 ∧ V i v w2)
    (k : stepsVE bt P ops w ex c V x a fin rest (i + 1) ((d, x i) :: e)) : stepsVE bt P ops w ex c V x a fin (⟨some d, op, ty, pos, aft, gd⟩ :: rest) i e := by
  refine ⟨hw, fun w1 h1 h2 => ?_, by simpa [hx, pushE] using k⟩
  rw [hr w1]
  exact (h w1 h1 h2).mono fun e' w2 ⟨v, he, hw, hv⟩ => ⟨v, he, hw, by simpa [hx] using hv⟩
theorem VE_nil (h : ∀ w1, ExtM bt w.heap.size w w1 → (∀ j, j < ops.size → ex j = false → V j (x j) w1) → fin (withEnv a e) w1) : stepsVE bt P ops w ex c V x a fin [] i e := h
end
attribute [irreducible] stepsVE
end Go.Sp
namespace Go.Sp
open Go.RowKit
section
variable {P : Program} {ops : Array Oper} {R : World → World → Prop} {w : World} {V : Nat → Value → World → Prop} {Q : Exit → Act → World → Prop} {a : Act}
/-- All but the last are listed. -/
theorem InvV.allBut {listed : Array Bool} {x : Nat → Value} {a1 : Act} {w1 : World} (hok : okV ops = true) (inv : InvV ops R w V a listed x a1 w1) {m : Nat} (hm : m + 1 = ops.size) (hml : listed.getD m false = false)
    (hall : ∀ j, j < m → listed.getD j false = true) : a1 = putsV x (ops.toList.take m) 0 a := by
  obtain ⟨_, hspec⟩ := okV_spec hok
  have ht : a1.tmps = (putsV x (ops.toList.take m) 0 a).tmps := by
    apply Array.ext_getElem?
    intro t
    by_cases hw : ∃ (j : Nat) (p : Oper), ops[j]? = some p ∧ p.dst = some t
    · obtain ⟨j, p, hp, hd⟩ := hw
      have hjs := (Array.getElem?_eq_some_iff.1 hp).1
      have hju : ∀ (j' : Nat) (o' : Oper), ops[j']? = some o' → o'.dst = some t → j' = j := fun j' o' h' hd' => by
        rcases ((hspec j' o' h').2 j p t hp hd).1 with h | h
        · exact h
        · exact absurd hd' h
      by_cases hj : j = m
      · rw [inv.rest t (fun j' o' h' hd' => by rw [hju j' o' h' hd', hj]; exact hml), putsV_other x t _ 0 a (fun q hq hqt => by
          obtain ⟨k, hk⟩ := List.getElem?_of_mem hq
          rw [List.getElem?_take] at hk
          split at hk
          · have := hju k q (by simpa using hk) hqt; omega
          · cases hk)]
      · rw [inv.done j p t hp hd (hall j (by omega)), putsV_at x t _ 0 j a p (by rw [List.getElem?_take, if_pos (by omega)]; simpa using hp) hd (fun j' o' h' hd' => by
          rw [List.getElem?_take] at h'
          split at h'
          · exact hju j' o' (by simpa using h') hd'
          · cases h')]
        simp
    · have hno : ∀ (j : Nat) (p : Oper), ops[j]? = some p → p.dst ≠ some t := fun j p hp hd => hw ⟨j, p, hp, hd⟩
      rw [inv.rest t (fun j' o' h' hd' => absurd hd' (hno j' o' h')), putsV_other x t _ 0 a (fun q hq hqt => by
        obtain ⟨k, hk⟩ := List.getElem?_of_mem hq
        rw [List.getElem?_take] at hk
        split at hk
        · exact hno k q (by simpa using hk) hqt
        · cases hk)]
  have hd := inv.defers
  have hd2 := putsV_defers x (ops.toList.take m) 0 a
  cases a1
  cases hp : putsV x (ops.toList.take m) 0 a
  rw [hp] at ht hd2
  simp only at ht hd hd2
  subst ht
  rw [hd, hd2]
theorem any_of_tail (ex : Nat → Bool) (c : Nat → Value) (hex : ∀ j v u, ex j = true → V j v u → v = c j) (hok : okV ops = true) (hrefl : ∀ a, R a a) (htrans : ∀ a b c, R a b → R b c → R a c) (hmono : ∀ j v u u', R u u' → V j v u → V j v u')
    {m : Nat} (hm : m + 1 = ops.size) {ol : Oper} (hol : ops[m]? = some ol) (hog : ol.guard = none) (hwait : ∀ j, j < m → edgeOn ol j = true)
    (h : ∀ x : Nat → Value, (∀ j, ex j = true → x j = c j) → stepsV P ops R w (fun j v u => j < m → V j v u) x (fun a' w' => wpList P ops Q [ol] a' w') (ops.toList.take m) 0 a) :
    ∀ (fuel : Nat) (listed : Array Bool) (x : Nat → Value) (a1 : Act) (w1 : World), (∀ j, ex j = true → x j = c j) → InvV ops R w (fun j v u => j < m → V j v u) a listed x a1 w1 → listed.getD m false = false →
      (List.range ops.size).countP (fun i => !listed.getD i true) ≤ fuel → wpAny P .any ops Q fuel listed a1 w1 := by
  obtain ⟨hsel, hspec⟩ := okV_spec hok
  have hmono' : ∀ j v u u', R u u' → (j < m → V j v u) → (j < m → V j v u') := fun j v u u' hu hv hj => hmono j v u u' hu (hv hj)
  have hcnt : ∀ listed : Array Bool, listed.size = ops.size → listed.getD m false = false → 0 < (List.range ops.size).countP (fun i => !listed.getD i true) := by
    intro listed hs hl
    refine List.countP_pos_iff.2 ⟨m, List.mem_range.2 (by omega), ?_⟩
    rw [getD_tf hs (by omega), hl]; rfl
  intro fuel
  induction fuel with
  | zero =>
    intro listed x a1 w1 hx inv hl hc
    have := hcnt listed inv.lsize hl
    omega
  | succ fuel ih =>
    intro listed x a1 w1 hx inv hl hc
    have hready : Region.ready .any ops listed ≠ [] := by
      intro hr
      have key : ∀ j, j < ops.size → listed.getD j false = true := by
        intro j
        induction j using Nat.strongRecOn with
        | _ j ih =>
          intro hj
          cases hcc : listed.getD j false with
          | true => rfl
          | false =>
            have : j ∈ Region.ready .any ops listed := mem_ready.2 ⟨by rw [getD_tf inv.lsize hj]; exact hcc, ops[j], by simp [hj], fun e he hb => by
              have hlt := (hspec j ops[j] (by simp [hj])).1 e he hb
              exact ih e.on hlt (by omega)⟩
            rw [hr] at this; cases this
      rw [key m (by omega)] at hl; cases hl
    refine ⟨fun hr => absurd hr hready, fun i hi => ?_⟩
    obtain ⟨hiu, o, ho, hall⟩ := mem_ready.1 hi
    have hio := (Array.getElem?_eq_some_iff.1 ho).1
    have hif : listed.getD i false = false := by rw [← getD_tf inv.lsize hio]; exact hiu
    have hcount : ∀ (l2 : Array Bool), l2 = listed.setIfInBounds i true → (List.range ops.size).countP (fun i => !l2.getD i true) ≤ fuel := by
      rintro l2 rfl
      have : (List.range ops.size).countP (fun j => !(listed.setIfInBounds i true).getD j true) < (List.range ops.size).countP (fun j => !listed.getD j true) := by
        refine countP_lt (i := i) (fun j _ hq => ?_) (List.mem_range.2 hio) (by simp only [hiu]; rfl) ?_
        · by_cases hj : j = i
          · subst hj; simp only [hiu]; rfl
          · rw [getD_set_ne true (Ne.symm hj)] at hq; exact hq
        · have : i < listed.size := by rw [inv.lsize]; exact hio
          simp [this]
      omega
    by_cases him : i = m
    · subst him
      rw [hol] at ho
      cases ho
      have hj : ∀ j, j < i → listed.getD j false = true := fun j hj => by
        obtain ⟨e, he1, he2⟩ := Array.any_eq_true'.1 (hwait j hj)
        simp only [Bool.and_eq_true, beq_iff_eq] at he2
        have hl := hall e he1 he2.1
        rwa [he2.2] at hl
      have ha := inv.allBut hok hm hif hj
      have hfin := (stepsV_split _ _ _ (h x hx)).2 w1 inv.reach fun j hj' hlt => inv.facts j hj' (hj j hlt) hlt
      rw [← ha] at hfin
      unfold wpOp
      simp only [hol]
      have hwant : Region.wanted ol (yielded ops a1.tmps) = true := by unfold Region.wanted; rw [hog]
      rw [if_pos hwant]
      unfold wpList at hfin
      rw [if_pos hwant] at hfin
      rcases hfin with hfin | hfin
      case inr => exact .inr hfin
      refine .inl (Oper.wp_mono (fun a2 w2 hq => ?_) hfin)
      replace hq : Q .normal a2 w2 := hq
      have hall2 : ∀ j, j < ops.size → (listed.setIfInBounds i true).getD j true = true := fun j hj' => by
        have hs : (listed.setIfInBounds i true).size = ops.size := by simp [inv.lsize]
        rw [getD_tf hs hj']
        by_cases e : j = i
        · subst e
          have : j < listed.size := by rw [inv.lsize]; exact hio
          simp [this]
        · rw [getD_set_ne false (Ne.symm e)]; exact hj j (by omega)
      have hr0 : Region.ready .any ops (listed.setIfInBounds i true) = [] := by
        rw [List.eq_nil_iff_forall_not_mem]
        intro k hk
        have h1 := (mem_ready.1 hk).1
        obtain ⟨_, o', ho', _⟩ := mem_ready.1 hk
        rw [hall2 k (Array.getElem?_eq_some_iff.1 ho').1] at h1
        cases h1
      cases fuel with
      | zero => exact ⟨hr0, hq⟩
      | succ f => exact ⟨fun _ => hq, fun k hk => by rw [hr0] at hk; cases hk⟩
    · have hilt : i < m := by omega
      have hsame := inv.same hok ho hif hall
      have hst := (stepsV_split _ _ _ (h x hx)).1 i o (by rw [List.getElem?_take, if_pos hilt]; simpa using ho) w1 inv.reach (fun j hj hlt => by
        have hjs : j < ops.size := by omega
        obtain ⟨_, hm'⟩ := List.mem_filter.1 hj
        cases hp : ops[j]? with
        | none => simp [hp] at hm'
        | some p =>
          cases hd : p.dst with
          | none => simp [hp, hd] at hm'
          | some d =>
            simp [hp, hd] at hm'
            rcases ((hspec i o ho).2 j p d hp hd).2 hm' with ⟨_, he⟩ | ⟨hle, _⟩
            · obtain ⟨e, he1, he2⟩ := Array.any_eq_true'.1 he
              simp only [Bool.and_eq_true, beq_iff_eq] at he2
              have hl := hall e he1 he2.1
              rw [he2.2] at hl
              exact inv.facts j hjs hl
            · omega)
      rw [List.take_take, show min i m = i by omega] at hst
      rw [← wanted_same hsame] at hst
      rw [execOp_congr (ρ := (putsV x (ops.toList.take i) 0 a).eval) (ρ' := a1.eval) o (Region.noSelect_spec hsel i o · · ho) (fun y hy => (eval_same hsame y hy).symm), Nat.zero_add] at hst
      have hset : (listed.setIfInBounds i true).getD m false = false := by rw [getD_set_ne false him]; exact hl
      have hx' : ∀ v u, V i v u → ∀ j, ex j = true → (fun j => if j = i then v else x j) j = c j := by
        intro v u hv j hj
        by_cases e : j = i
        · subst e; simp only [if_true]; exact hex _ _ _ hj hv
        · simp only [if_neg e]; exact hx j hj
      unfold wpOp
      simp only [ho]
      split
      · rename_i hw
        rw [if_pos hw] at hst
        refine .inl (wp_of_gives (hst.mono fun v w2 ⟨hR, hv⟩ => ?_))
        exact ih _ _ _ _ (hx' v w2 (hv hilt)) (inv.step hok htrans hmono' ho hif hall hR hv) hset (hcount _ rfl)
      · rename_i hw
        rw [if_neg hw] at hst
        exact ih _ _ _ _ (hx' undef w1 (hst hilt)) (inv.step hok htrans hmono' ho hif hall (hrefl _) hst) hset (hcount _ rfl)
end
end Go.Sp
namespace Go.Sp
open Go.RowKit
section
variable {bt : TypeId} {P : Program} {ops : Array Oper} {R : World → World → Prop} {w : World} {V : Nat → Value → World → Prop} {Q : Exit → Act → World → Prop} {a : Act}
theorem stepsV_under {m : Nat} {x : Nat → Value} {fin : Act → World → Prop} (hV : ∀ j v u, m ≤ j → V j v u) : ∀ (l : List Oper) (i : Nat) (a : Act), i + l.length ≤ m → stepsV P ops R w V x fin l i a → stepsV P ops R w (fun j v u => j < m → V j v u) x fin l i a
  | [], _, _, _, h => fun w1 h1 h2 => h w1 h1 fun j hj => by
    by_cases hjm : j < m
    · exact h2 j hj hjm
    · exact hV j _ _ (by omega)
  | o :: l, i, a, hi, h => by
    simp only [List.length_cons] at hi
    refine ⟨fun w1 hR hf => ?_, stepsV_under hV l (i + 1) _ (by omega) h.2⟩
    have h1 := h.1 w1 hR fun j hj hlt => hf j hj hlt (by omega)
    split
    · rename_i hw
      rw [if_pos hw] at h1
      exact h1.mono fun v w2 ⟨a, b⟩ => ⟨a, fun _ => b⟩
    · rename_i hw
      rw [if_neg hw] at h1
      exact fun _ => h1
/-- The last operation waits for all others. -/
def tailB (l : List Oper) (n : Nat) : Bool := match l.drop n with
  | [o] => o.guard.isNone && (List.range n).all (edgeOn o)
  | _ => false
/-- A region that draws, by values; its last operation comes behind all others. -/
theorem wp_region_VT {id : Nat} {l : List Oper} (n : Nat) (ex : Nat → Bool) (c : Nat → Value) (V : Nat → Value → World → Prop) (hm : P.follows .mixedOrders = true) (hok : okV l.toArray = true) (htl : tailB l n = true)
    (hsz : (l.take n).all (fun o => match o.dst with | some d => decide (d < a.tmps.size) | none => true) = true) (hmono : ∀ j v u u', ExtM bt w.heap.size u u' → V j v u → V j v u') (hV : ∀ j v u, n ≤ j → V j v u)
    (h : ∀ x, stepsVE bt P l.toArray w (fun j => ex j && decide (j < n)) c V x a (fun a' w' => wpList P l.toArray Q (l.drop n) a' w') (l.take n) 0 []) : (Code.region id l.toArray true).wp P Q a w := by
  unfold tailB at htl
  split at htl
  · rename_i o ho
    simp only [Bool.and_eq_true, Option.isNone_iff_eq_none, List.all_eq_true, List.mem_range] at htl
    have hlen : n + 1 = l.length := by
      have := congrArg List.length ho
      simp at this; omega
    have hget : l[n]? = some o := by
      have := List.getElem?_drop (xs := l) (i := n) (j := 0)
      rw [ho] at this; simpa using this.symm
    refine wp_region_any hm (any_of_tail (R := ExtM bt w.heap.size) (V := fun i v u => if (ex i && decide (i < n)) then v = c i else V i v u) (w := w) (a := a) (fun j => ex j && decide (j < n)) c (fun j v u hj hv => (if_pos (c := (ex j && decide (j < n)) = true) hj).mp hv) hok (ExtM.refl _ _) (fun _ _ _ => ExtM.trans) ?_ (m := n) (show n + 1 = l.toArray.size by rw [hlen]; rfl) (ol := o) (show l.toArray[n]? = some o from (List.getElem?_toArray ..).trans hget) htl.1 htl.2 ?_ _ _ c _ _ (fun _ _ => rfl) ?_ ?_ ?_)
    · intro j v u u' hu hv
      by_cases hj : (ex j && decide (j < n)) = true
      · rw [if_pos hj] at *; exact hv
      · rw [if_neg hj] at *; exact hmono j v u u' hu hv
    · intro x hx
      have h1 := stepsV_of_E (a := a) hx (l.take n) 0 [] (fun _ h => by cases h) hsz (h x)
      have h2 := stepsV_under (m := n) (fun j v u hj => by
        have : ¬ ((ex j && decide (j < n)) = true) := by simp; omega
        rw [if_neg this]; exact hV j v u hj) (l.take n) 0 _ (by simp; omega) h1
      rw [ho] at h2
      exact h2
    · refine ⟨by simp, ExtM.drew _ _ w, ?_, rfl, rfl, ?_, fun _ _ => rfl, ?_⟩
      · intro j o _ hl; simp [Array.getElem?_replicate] at hl
        split at hl <;> simp at hl
      · intro j o t _ _ hl; simp [Array.getElem?_replicate] at hl
        split at hl <;> simp at hl
      · intro j _ hl; simp [Array.getElem?_replicate] at hl
        split at hl <;> simp at hl
    · simp [Array.getElem?_replicate]
      split <;> rfl
    · refine Nat.le_trans List.countP_le_length ?_
      simp
  · cases htl
end
end Go.Sp
