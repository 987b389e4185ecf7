/-
  A part of the proofs of this seat: laws of the walk, or contracts of the functions that the statements reach. No conditions but those that each theorem names.
-/
import Derived.Lib.SlBytesConst
import Derived.Lib.AppendZerosOnto
import Derived.Laws.ResultCell
import Derived.Test.YthpjihiikkhcjaaGe
import Derived.Test.YthpjihiikkhcjaaGd
namespace Go.Sp
open Go.RowKit
theorem freeze_ext {bt : TypeId} (n : Nat) (u : World) (p : Addr) (k : Nat) (hn : n ≤ p.block) (hb : ∃ cs fr, u.heap[p.block]? = some (.cells cs bt fr)) : ExtM bt n u (u.freeze p k) := by
  obtain ⟨cs0, fr0, hb⟩ := hb
  unfold World.freeze
  split
  · exact ExtM.refl _ _ _
  · refine ⟨⟨rfl, rfl, rfl, by simp, fun j hj => ?_⟩, fun g cs t fr hg => ?_⟩
    · simp only [Array.getElem?_modify]
      rw [if_neg (by omega)]
    · simp only [Array.getElem?_modify]
      by_cases e : p.block = g
      · subst e
        rw [if_pos rfl, hg]
        rw [hb] at hg
        cases hg
        exact ⟨_, rfl, fun h => absurd rfl h⟩
      · rw [if_neg e]; exact ⟨fr, hg, fun _ => rfl⟩
theorem Byt.ofCells {w : World} {g : Nat} {l : List UInt8} {t : TypeId} {fr : Nat × Nat} (h : w.heap[g]? = some (.cells (l.map B).toArray t fr)) (hl : l.length ≤ maxLen) : Byt w (.slice (some ⟨g, 0, none⟩) l.length l.length) l :=
  .inr ⟨g, 0, l.length, rfl, Nat.le_refl _, hl, (Array.getElem?_eq_some_iff.1 h).1, fun i b hi => by simp [World.cell?, h, hi]⟩
theorem Byt.extM {bt : TypeId} {n : Nat} {w w' : World} {v : Value} {l : List UInt8} (h : Byt w v l) (e : ExtM bt n w w') : Byt w' v l := by
  rcases h with h | ⟨g, off, cap, rfl, h1, h2, h3, h4⟩
  · exact .inl h
  · exact .inr ⟨g, off, cap, rfl, h1, h2, Nat.lt_of_lt_of_le h3 e.below.size, fun i b hi => e.cell (h4 i b hi)⟩
theorem Blk.extM {bt : TypeId} {n : Nat} {w w' : World} {g : Nat} {cs : Array Value} {t : TypeId} (h : Blk w g cs t) (ht : t ≠ bt) (e : ExtM bt n w w') : Blk w' g cs t := by
  obtain ⟨fr, h', hf⟩ := e.keep g cs t (0, 0) h
  rw [hf ht] at h'
  exact h'
theorem r_pickT {P : Program} {w : World} {ρ : Operand → Value} {d : Option Tmp} {ty : TypeId} {pos : String} {aft : Array Edge} {g : Option (Nat × Bool)} {x y z : Operand} {v : Value} (hx : ρ x = .bool true) (hy : ρ y = v) : (execOp ρ ⟨d, .pick x y z, ty, pos, aft, g⟩).run P w = .ok (.value v) w :=
  r_pick hx (by rw [if_pos rfl, hy])
theorem strOfNums_bytes (l : List UInt8) : strOfNums (l.map Ub) = ⟨l.toArray⟩ := by
  unfold strOfNums
  congr 2
  rw [List.map_map]
  conv => rhs; rw [← List.map_id l]
  apply List.map_congr_left
  intro x _
  simp [Ub]
theorem Byt.str {P : Program} {w : World} {v : Value} {l : List UInt8} {src e dst : TypeId} (h : Byt w v l) (hs : P.underlying src = some (.slice e)) (he : P.underlying e = some (.int .u8)) (hd : P.underlying dst = some .string) :
    (convert src dst v).run P w = .ok (.string ⟨l.toArray⟩) w := by
  rcases h with ⟨rfl, rfl⟩ | ⟨g, off, cap, rfl, _, _, _, h4⟩
  · rw [run_convert_bytes_nil w src e hs he 0 0 dst hd]; rfl
  · rw [run_convert_bytes_arg w src e hs he g off l.length cap (l.map Ub) (by simp) (fun i hi => ?_) dst hd, strOfNums_bytes]
    rw [h4 i l[i] (by simp [hi])]
    simp [List.getD_eq_getElem?_getD, hi]
theorem r_min {P : Program} {w : World} {ρ : Operand → Value} {d : Option Tmp} {ty : TypeId} {ts : Array TypeId} {pos : String} {aft : Array Edge} {g : Option (Nat × Bool)} {x y : Operand} {a b c : Int} (hx : ρ x = .int .i64 a) (hy : ρ y = .int .i64 b) (hc : min a b = c) :
    (execOp ρ ⟨d, .call { callee := .builtin .min, args := #[x, y], argTypes := ts }, ty, pos, aft, g⟩).run P w = .ok (.value (.int .i64 c)) w := by
  subst hc
  by_cases h : b < a
  · simp [execOp, hx, hy, resolve, invoke, builtin, Builtin.min_, Builtin.min2, h]; omega
  · simp [execOp, hx, hy, resolve, invoke, builtin, Builtin.min_, Builtin.min2, h]; omega
theorem r_max {P : Program} {w : World} {ρ : Operand → Value} {d : Option Tmp} {ty : TypeId} {ts : Array TypeId} {pos : String} {aft : Array Edge} {g : Option (Nat × Bool)} {x y : Operand} {a b c : Int} (hx : ρ x = .int .i64 a) (hy : ρ y = .int .i64 b) (hc : max a b = c) :
    (execOp ρ ⟨d, .call { callee := .builtin .max, args := #[x, y], argTypes := ts }, ty, pos, aft, g⟩).run P w = .ok (.value (.int .i64 c)) w := by
  subst hc
  by_cases h : a < b
  · simp [execOp, hx, hy, resolve, invoke, builtin, Builtin.max_, Builtin.max2, h]; omega
  · simp [execOp, hx, hy, resolve, invoke, builtin, Builtin.max_, Builtin.max2, h]; omega
theorem r_eqlS {ρ : Operand → Value} {d : Option Tmp} {t t' ty : TypeId} {pos : String} {aft : Array Edge} {g : Option (Nat × Bool)} {x y : Operand} {P : Program} {w : World} {s : ByteArray} (hx : ρ x = .string s) (hy : ρ y = .string s) : (execOp ρ ⟨d, .binOp .eql t x y t', ty, pos, aft, g⟩).run P w = .ok (.value (.bool true)) w :=
  r_bin hx hy rfl (by simp [binOp, Op.stringOp])
theorem r_conv {ρ : Operand → Value} {d : Option Tmp} {t t' ty : TypeId} {pos : String} {aft : Array Edge} {g : Option (Nat × Bool)} {x : Operand} {P : Program} {w w' : World} {v u : Value} (hx : ρ x = v) (h : (convert t t' v).run P w = .ok u w') : (execOp ρ ⟨d, .convert t t' x, ty, pos, aft, g⟩).run P w = .ok (.value u) w' := by
  simp [execOp, hx, h]
theorem tmod_cases (a n : Int) (hn : 0 < n) : (0 ≤ a.tmod n ∧ a.tmod n = a % n) ∨ (a.tmod n < 0 ∧ a.tmod n + n = a % n ∧ -n < a.tmod n) := by
  have h := Int.tmod_eq_emod (a := a) (b := n)
  have h1 := Int.emod_nonneg a (b := n) (by omega)
  have h2 := Int.emod_lt_of_pos a hn
  by_cases hc : 0 ≤ a ∨ n ∣ a
  · rw [if_pos hc] at h; left; omega
  · rw [if_neg hc] at h
    have h0 : a % n ≠ 0 := fun e => hc (.inr (Int.dvd_of_emod_eq_zero e))
    right; omega
theorem flat1 (x : List UInt8) : (flat [x]).length = 8 + x.length := by simp [flat, eight_length]
theorem flat2 (x y : List UInt8) : (flat [x, y]).length = 16 + x.length + y.length := by simp [flat, eight_length]; omega
theorem len1 {x : List UInt8} {n : Nat} (hx : x.length ≤ n) : ∀ l ∈ [x], l.length ≤ n := fun l hl => by
  simp at hl
  rw [hl]; exact hx
theorem len2 {x y : List UInt8} {n : Nat} (hx : x.length ≤ n) (hy : y.length ≤ n) : ∀ l ∈ [x, y], l.length ≤ n := fun l hl => by
  simp at hl
  rcases hl with e | e <;> rw [e] <;> assumption
end Go.Sp
namespace Go.Proofs.Ythpjihiikkhcjaa
open Go.RowKit Go.Sp
theorem arA35 : ArrI Try.prog 65 16 .u8 := ⟨⟨5, Try.underlying65, by kernel_rfl, by kernel_rfl, Try.underlying5⟩, by kernel_rfl⟩
theorem arA25 : ArrI Try.prog 25 8 .u32 := ⟨⟨24, Try.underlying25, by kernel_rfl, by kernel_rfl, Try.underlying24⟩, by kernel_rfl⟩
theorem sl1_29 : Sl1 Try.prog 23 5 := ⟨Try.underlying23, by obtain ⟨i, h1, _, h3, _⟩ := byt29.info; exact ⟨i, h1, h3⟩⟩
set_option maxHeartbeats 400000 in
theorem within_any (a n : Int) (ha : -9223372036854775808 ≤ a ∧ a ≤ 9223372036854775807) (hn : 0 < n) (hn' : n ≤ 4611686018427387904) (w : World) :
    Calls Try.prog 18 #[.int .i64 a, .int .i64 n] w fun e w' => e = .returned (.int .i64 (a % n)) ∧ w = w' := by
  have hz : ¬ n = 0 := by omega
  obtain ⟨h1, h2⟩ := ha
  rcases tmod_cases a n hn with ⟨h, he⟩ | ⟨h, he, h3⟩
  · have HE := Lib.hid he
    have hlt : ¬ a.tmod n < 0 := by omega
    clear he
    go_enter Try.func18, Try.ntmps18
    go_wp2
    go_ret
    exact ⟨by rw [← HE.out]; rfl, rfl⟩
  · have HE := Lib.hid he
    clear he
    go_enter Try.func18, Try.ntmps18
    go_wp2
    go_ret
    exact ⟨by rw [← HE.out]; rfl, rfl⟩
theorem within_nat (a n : Int) (ha : -9223372036854775808 ≤ a ∧ a ≤ 9223372036854775807) (hn : 0 < n) (hn' : n ≤ 4611686018427387904) (w : World) :
    Calls Try.prog 18 #[.int .i64 a, .int .i64 n] w fun e w' => ∃ q : Nat, e = .returned (.int .i64 q) ∧ (q : Int) = a % n ∧ (q : Int) < n ∧ w = w' :=
  (within_any a n ha hn hn' w).mono fun e w' ⟨he, hw⟩ => by
    have h1 := Int.emod_nonneg a (b := n) (by omega)
    have h2 := Int.emod_lt_of_pos a hn
    exact ⟨(a % n).toNat, by rw [he]; congr 2; omega, by omega, by omega, hw⟩
/-- Equal sums compare as equal. -/
theorem eq35 (L : List UInt8) (h : L.length = 16) (w : World) : (binOp .eql 65 (.agg (L.map B).toArray) (.agg (L.map B).toArray)).run Try.prog w = .ok (.bool true) w := by
  have := run_eql_ints (P := Try.prog) w arA35 (L.map Ub) (L.map Ub) (by simpa) (by simpa)
  rw [← mapB_ints] at this
  rw [this]; simp
theorem ne35 (L : List UInt8) (h : L.length = 16) (w : World) : (binOp .neq 65 (.agg (L.map B).toArray) (.agg (L.map B).toArray)).run Try.prog w = .ok (.bool false) w := by
  have h1 := eq35 L h w
  rw [run_eql_struct] at h1
  rw [run_neq_struct]
  generalize (Op.equalIn 10000 65 (.agg (L.map B).toArray) (.agg (L.map B).toArray)).run Try.prog w = r at *
  cases r with
  | ok b w' => simp only [Result.andThen_ok, Result.ok.injEq, Value.bool.injEq] at h1 ⊢; obtain ⟨rfl, rfl⟩ := h1; exact ⟨rfl, rfl⟩
  | halt x w' => simp [Result.andThen] at h1
theorem gd35 (op : BinOp) (x y : Operand) (A A' : Array Value) (w : World) : (eqGuard op 65 x y (.agg A) (.agg A')).run Try.prog w = .ok () w := run_eqGuard_agg w op 65 x y A A' arA35.guard
theorem r_neq35 {ρ : Operand → Value} {d : Option Tmp} {ty t' : TypeId} {pos : String} {aft : Array Edge} {g : Option (Nat × Bool)} {x y : Operand} {L : List UInt8} (w : World) (hx : ρ x = .agg (L.map B).toArray) (hy : ρ y = .agg (L.map B).toArray) (h : L.length = 16) :
    (execOp ρ ⟨d, .binOp .neq 65 x y t', ty, pos, aft, g⟩).run Try.prog w = .ok (.value (.bool false)) w := by
  simp only [execOp, hx, hy, Sem.run_bind, gd35, ne35 L h w, Result.andThen_ok, Sem.run_pure]
end Go.Proofs.Ythpjihiikkhcjaa
namespace Go.Sp
open Go.RowKit
theorem zeroCells_u8 (k : Nat) : Builtin.zeroCells #[.int .u8 0] k = (List.replicate k (B 0)).toArray := by
  unfold Builtin.zeroCells
  apply Array.ext
  · simp
  · intro i h1 h2
    simp [B, Nat.mod_one]
    rfl
theorem run_firstCells_own {P : Program} {w : World} {e : TypeId} {base : Nat} {a : Option Addr} {n c : Nat} {l : List UInt8} (h : Own e base w (.slice a n c) l) (hn : n = l.length) : (Builtin.firstCells 1 n (.slice a n c)).run P w.drew = .ok (l.map B).toArray w.drew := by
  subst hn
  rcases h.2 with ⟨h1, h2⟩ | ⟨g, cap, cur, h1, hb, hg, hc, hcm, hcs, ht⟩
  · simp only [Value.slice.injEq] at h1
    obtain ⟨rfl, hl, rfl⟩ := h1
    simp [Builtin.firstCells, List.eq_nil_of_length_eq_zero h2]
  · cases h1
    exact run_firstCells_some (P := P) w.drew 1 l.length ⟨g, 0, none⟩ l.length c (l.map B) (by simp) (by
      intro j u hu
      exact World.ownsRow.cells h (g := g) rfl j u hu)
theorem run_append_zeros {P : Program} (w : World) {t tn e : TypeId} {kn kq : IntKind} (hT : BytT P t e) (htn : P.underlying tn = some (.int kn)) (ty : TypeId) (base : Nat) {v : Value} {xs : List UInt8} (k : Nat) (hown : Own e base w v xs)
    (hlen : xs.length + k ≤ 70368744177664) (hbase : base ≤ w.heap.size) :
    ∃ v' w', (Builtin.append_ #[t, tn] ty #[v, .int kq k]).run P w = .ok v' w' ∧ Own e base w' v' (xs ++ List.replicate k 0) ∧ w.grownBy w' v.ownBlock := by
  obtain ⟨i, hi, hz, hs, hb⟩ := hT.info
  have hw : IntKind.i64.wrap (k : Int) = k := by rw [IntKind.wrap_i64]; omega
  have hneg : ¬ ((k : Int) < 0) := by omega
  have hbig : ¬ (281474976710656 < (k : Int)) := by omega
  obtain ⟨a, cap, rfl, hc, hm⟩ := hown.byt.len
  by_cases hroom : xs.length + k ≤ cap
  · by_cases hk : k = 0
    · subst hk
      refine ⟨_, w, ?_, by simpa using hown, ⟨rfl, rfl, rfl, Nat.le_refl _, fun _ _ _ => rfl⟩⟩
      cases a <;> simp [Builtin.append_, run_underlying hT.sl, run_underlying htn, sizeOf, typeInfo, zeroValue, hi, hz, hb, asInt, asIntOf, IntKind.wrap_i64, hc, storeCells]
    · rcases hown.2 with ⟨h1, _⟩ | ⟨g, cap', cur, h1, hbg, hg, _, hcm, hcs, htake⟩
      · simp only [Value.slice.injEq] at h1; omega
      · cases h1
        have hst := run_storeCells_at P g (xs.length * 1) e (List.replicate k (B 0)) 0 cur w hg (by simp; omega) (by intro u hu; rw [List.eq_of_mem_replicate hu]; rfl)
        refine ⟨.slice (some ⟨g, 0, none⟩) (xs.length + k) cap, w.setRow g (cur.toList.take (xs.length * 1 + 0) ++ List.replicate k (B 0) ++ cur.toList.drop (xs.length * 1 + 0 + (List.replicate k (B 0)).length)).toArray, ?_, ⟨by simp, .inr ⟨g, cap, (cur.toList.take (xs.length * 1 + 0) ++ List.replicate k (B 0) ++ cur.toList.drop (xs.length * 1 + 0 + (List.replicate k (B 0)).length)).toArray, ?_, hbg, setRow_heap w g cur _ e _ hg, ?_, hcm, ?_, ?_⟩⟩, ⟨rfl, rfl, rfl, by simp, fun j _ hj => setRow_other w g j _ (fun e => hj (by simp [Value.ownBlock, e]))⟩⟩
        · simp [Builtin.append_, run_underlying hT.sl, run_underlying htn, sizeOf, typeInfo, zeroValue, hi, hz, hs, hb, asInt, asIntOf, hw, hneg, hbig, hk, hroom, Addr.add_lit]
          simp only [Nat.mul_one] at hst
          rw [show (Value.int IntKind.u8 0).cells = #[Value.int .u8 0] from rfl, zeroCells_u8, hst]; simp
        · simp
        · simpa using hroom
        · simp; omega
        · have h2 : (xs.map B).length = xs.length := by simp
          simp only [Nat.add_zero]
          rw [htake, List.map_append, List.map_replicate, List.length_append, List.length_replicate]
          exact List.take_left' (by simp)
  · have hr := Lib.run_append_grow_zeros (P := P) w t tn ty e i (.int .u8 0) kq kn hT.sl htn hi hz a xs.length cap (xs.map B) (by rw [hs]; exact run_firstCells_own hown rfl) k (by omega) (by omega) (by omega) (by omega) (by rw [hb]; omega) (by rw [hb]; exact growslice_fits (by omega) (by omega))
    rw [show (Value.int IntKind.u8 0).cells = #[Value.int .u8 0] from rfl] at hr
    have hge := grownCap_ge w (xs.length + k) cap e
    have hcm : grownCap w (xs.length + k) cap e ≤ maxLen := grownCap_le_maxLen w _ cap e (by unfold maxLen; omega)
    refine ⟨_, _, hr, ⟨by simp, .inr ⟨w.heap.size, _, _, ?_, hbase, heap_alloc_new w.drew _, ?_, hcm, ?_, ?_⟩⟩, ⟨rfl, rfl, rfl, by simp, fun j hj _ => heap_alloc_old w.drew _ hj⟩⟩
    · simp
    · simpa using hge
    · simp [zeroCells_u8]; omega
    · simp only [zeroCells_u8, List.append_toArray]
      rw [List.map_append, List.map_replicate]
      exact List.take_left' (by simp)
theorem wpList_append_zeros {P : Program} {w : World} {ops : Array Oper} {rest : List Oper} {o : Oper} {a : Act} {Q : Exit → Act → World → Prop} {s x : Operand} {t tn e : TypeId} {kn kq : IntKind} {base : Nat} {vs : Value} {xs : List UInt8} {k : Nat}
    (hgd : o.guard = none) (ho : o.op = .call { callee := .builtin .append, args := #[s, x], argTypes := #[t, tn] }) (hT : BytT P t e) (htn : P.underlying tn = some (.int kn)) (hown : Own e base w vs xs) (hs : a.eval s = vs) (hx' : a.eval x = .int kq k)
    (hlen : xs.length + k ≤ 70368744177664) (hbase : base ≤ w.heap.size)
    (h : ∀ v' w', Own e base w' v' (xs ++ List.replicate k 0) → w.grownBy w' vs.ownBlock → wpList P ops Q rest (a.put o.dst v') w') : wpList P ops Q (o :: rest) a w :=
  wpList_plain hgd fun K hK => by
    obtain ⟨v', w', hr, h1, h2⟩ := run_append_zeros (P := P) w hT htn o.type base k hown hlen hbase (kq := kq)
    unfold Oper.wp execOp
    simp only [ho, resolve, invoke, builtin, Sem.run_bind, Sem.run_pure, Result.andThen_ok, List.map_toArray, List.map_cons, List.map_nil, hs, hx', hr]
    exact hK _ _ (h v' w' h1 h2)
end Go.Sp
namespace Go.Sp
open Go.RowKit
/-- A record of guard's laws: no rows, no numbers of 256 bits. -/
def recV (p : Int) (nm : ByteArray) (t a v : Int) : Array Value := #[.int .i64 p, .string nm, .slice none 0 0, .int .u32 0, .int .u32 0, .int .u32 0, .int .u32 0, .int .u32 0, .int .u32 0, .int .u32 0, .int .u32 0, .int .u32 0, .int .u32 0, .int .u32 0, .int .u32 0, .int .u32 0, .int .u32 0, .int .u32 0, .int .u32 0, .slice none 0 0, .int .i64 t, .int .i64 a, .int .i64 v]
/-- How many tokens by now, and since when. -/
def tokM (t a now : Int) : Int × Int :=
  if now ≤ a then (t, a)
  else if max 0 (min (t + min ((now - a) / 10) 5) 5) = 5 then (5, now)
  else (max 0 (min (t + min ((now - a) / 10) 5) 5), a + (now - a) / 10 * 10)
theorem r_quoI {ρ : Operand → Value} {d : Option Tmp} {t t' ty : TypeId} {pos : String} {aft : Array Edge} {g : Option (Nat × Bool)} {x y : Operand} {P : Program} {w : World} {a b c : Int} (hx : ρ x = .int .i64 a) (hy : ρ y = .int .i64 b) (ha : 0 ≤ a ∧ a ≤ 9223372036854775807) (hb : 0 < b) (hc : a / b = c) :
    (execOp ρ ⟨d, .binOp .quo t x y t', ty, pos, aft, g⟩).run P w = .ok (.value (.int .i64 c)) w := by
  have h1 : a.tdiv b = c := by rw [Int.tdiv_eq_ediv_of_nonneg ha.1]; exact hc
  have h2 : 0 ≤ c := by rw [← hc]; exact Int.ediv_nonneg ha.1 (by omega)
  have h3 : c ≤ a := by rw [← hc]; exact Int.ediv_le_self _ ha.1
  refine r_bin hx hy rfl ?_
  have hb0 : b ≠ 0 := by omega
  have hw : IntKind.i64.wrap c = c := by rw [IntKind.wrap_i64]; omega
  simp [binOp, Op.intDiv, hb0, h1, hw]
theorem tokM_le (t a now : Int) (h : a < now) : 0 ≤ (tokM t a now).1 ∧ (tokM t a now).1 ≤ 5 ∧ a ≤ (tokM t a now).2 ∧ (tokM t a now).2 ≤ now := by
  unfold tokM
  rw [if_neg (by omega)]
  split <;> (refine ⟨?_, ?_, ?_, ?_⟩ <;> simp only <;> omega)
end Go.Sp
namespace Go.Proofs.Ythpjihiikkhcjaa
open Go.RowKit Go.Sp
set_option maxHeartbeats 1000000 in
theorem bucket_any (w : World) : Calls Try.prog 35 #[] w fun e w' => e = .returned (.agg #[.int .i64 0, .int .i64 5]) ∧ Below w.heap.size w w' := by
  go_enter Try.func35, Try.ntmps35
  go_wp2
  exact bodyPost_ret (results_cell_row rfl _ _ w.heap.size 59 _ (0, 0) _ rfl (Blk.new w _ 59) Try.underlying59 rfl (by kernel_rfl)) rfl ⟨rfl, (Below.refl _ _).alloc (Nat.le_refl _) _⟩
set_option maxHeartbeats 1000000 in
theorem into_any (n : Int) (w : World) : Calls Try.prog 36 #[.agg #[.int .i64 0, .int .i64 5], .int .i64 n] w fun e w' => e = .returned (.int .i64 (max 0 (min n 5))) ∧ Below w.heap.size w w' := by
  go_enter Try.func36, Try.ntmps36
  go_wp2_with (refine (show wpList _ _ _ (⟨some 10, .call _, _, _, _, _⟩ :: _) _ _ from stop_here ?_))
  refine Stop.go (wpList_val rfl (r_min rfl rfl rfl) ?_)
  go_wp2_with (refine (show wpList _ _ _ (⟨some 11, .call _, _, _, _, _⟩ :: _) _ _ from stop_here ?_))
  refine Stop.go (wpList_val rfl (r_max rfl rfl rfl) ?_)
  go_wp2
  go_ret
  exact ⟨rfl, (Below.refl _ _).alloc (Nat.le_refl _) _⟩
set_option maxHeartbeats 1000000 in
theorem bucketrow_any (n a : Int) (w : World) (hn : -9223372036854775808 ≤ n ∧ n ≤ 9223372036854775807) (ha : -9223372036854775808 ≤ a ∧ a ≤ 9223372036854775807) : Calls Try.prog 17 #[.int .i64 n, .int .i64 a] w fun e w' => e = .returned (.agg (recV 1 ⟨#[117]⟩ (n % 6) (a % 500) 0)) ∧ Below w.heap.size w w' := by
  go_enter Try.func17, Try.ntmps17
  go_wp2_with fail
  refine (within_any n 6 hn (by decide) (by decide) _).mono ?_
  rintro _ wx ⟨rfl, rfl⟩
  go_wp2_with fail
  refine (within_any a 500 ha (by decide) (by decide) _).mono ?_
  rintro _ wx ⟨rfl, rfl⟩
  go_wp2_with (refine (show wpList _ _ _ (⟨none, .store 28 (.tmp 4) (.tmp 9), _, _, _, _⟩ :: _) _ _ from stop_here ?_))
  refine Stop.go (wpList_store_blk rfl rfl rfl rfl (Blk.new w _ 28) rfl (by kernel_rfl) (by simp [Value.oneCell']) ?_)
  intro w2 hR hO
  have hb := ((Below.refl w.heap.size w).alloc (Nat.le_refl _) _).trans (hO.below (Nat.le_refl _) (by simp))
  clear hO
  go_wp2
  exact bodyPost_ret (results_cell_row rfl _ _ w.heap.size 28 _ (0, 0) _ rfl hR Try.underlying28 rfl (by kernel_rfl)) rfl ⟨rfl, hb⟩
theorem pf35 : plainFn Try.prog 35 = true := by kernel_rfl
theorem pf36 : plainFn Try.prog 36 = true := by kernel_rfl
theorem fld28_6 : fieldOff Try.prog 28 6 = some 20 := by kernel_rfl
theorem fld28_7 : fieldOff Try.prog 28 7 = some 21 := by kernel_rfl
set_option maxRecDepth 100000 in
set_option maxHeartbeats 2000000 in
theorem tokens_any (p : Int) (nm : ByteArray) (t a v now : Int) (w : World) (ht : 0 ≤ t ∧ t ≤ 5) (ha : 0 ≤ a ∧ a ≤ 1000000000000) (hn : -9223372036854775808 ≤ now ∧ now ≤ 9223372036854775807) :
    Calls Try.prog 19 #[.agg (recV p nm t a v), .int .i64 now] w fun e w' => e = .returned (.tuple #[.int .i64 (tokM t a now).1, .int .i64 (tokM t a now).2]) ∧ Below w.heap.size w w' := by
  have hR : Blk (w.alloc (.cells (recV p nm t a v) 28)) w.heap.size (recV p nm t a v) 28 := Blk.new w _ 28
  have hbw : Below w.heap.size w (w.alloc (.cells (recV p nm t a v) 28)) := (Below.refl _ _).alloc (Nat.le_refl _) _
  have hrv : recV p nm t a v = #[.int .i64 p, .string nm, .slice none 0 0, .int .u32 0, .int .u32 0, .int .u32 0, .int .u32 0, .int .u32 0, .int .u32 0, .int .u32 0, .int .u32 0, .int .u32 0, .int .u32 0, .int .u32 0, .int .u32 0, .int .u32 0, .int .u32 0, .int .u32 0, .int .u32 0, .slice none 0 0, .int .i64 t, .int .i64 a, .int .i64 v] := rfl
  by_cases h : now ≤ a
  · have e : tokM t a now = (t, a) := by unfold tokM; rw [if_pos h]
    rw [e]
    clear e
    rw [hrv]
    go_enter Try.func19, Try.ntmps19
    go_wp2
    rw [← hrv]
    generalize w.alloc (.cells (recV p nm t a v) 28) = w1 at *
    have hc6 : w1.cell? ⟨w.heap.size, 0 + 20, none⟩ = some (.int .i64 t) := by rw [hR.cell]; rfl
    have hc7 : w1.cell? ⟨w.heap.size, 0 + 21, none⟩ = some (.int .i64 a) := by rw [hR.cell]; rfl
    refine wp_region_VE (bt := 5) (fun _ => true) (fun ix => (lookL [.pointer (some ⟨w.heap.size, 0 + 20, none⟩), .int .i64 t, .pointer (some ⟨w.heap.size, 0 + 21, none⟩), .int .i64 a, .int .i64 t, .int .i64 a] ix).getD undef) (fun _ _ _ => True) (by kernel_rfl) (by kernel_rfl) (by kernel_rfl) (fun _ _ _ _ _ _ => trivial) fun x => ?_
    refine VE_ex (v := .pointer (some ⟨w.heap.size, 0 + 20, none⟩)) rfl rfl rfl (fun u hu hf => r_fieldAddr (rho_base rfl rfl) fld28_6) ?_
    refine VE_ex (v := .int .i64 t) rfl rfl rfl (fun u hu hf => r_load (rho_env rfl) on3 (hu.cell hc6)) ?_
    refine VE_ex (v := .pointer (some ⟨w.heap.size, 0 + 21, none⟩)) rfl rfl rfl (fun u hu hf => r_fieldAddr (rho_base rfl rfl) fld28_7) ?_
    refine VE_ex (v := .int .i64 a) rfl rfl rfl (fun u hu hf => r_load (rho_env rfl) on3 (hu.cell hc7)) ?_
    refine VE_ex (v := .int .i64 t) rfl rfl rfl (fun u hu hf => r_assign (rho_env rfl)) ?_
    refine VE_ex (v := .int .i64 a) rfl rfl rfl (fun u hu hf => r_assign (rho_env rfl)) ?_
    refine VE_nil fun u hu hf => ?_
    rw [withEnv_norm (rfl : setsL _ 0 _ = [_, _, _, _, _, _, _, _, _, _, _, _, _, _, _, _, _, _, _, _, _, _, _, _, _, _, _, _, _, _, _, _, _, _, _, _, _])]
    have hb2 := hbw.trans (hu.below.mono hbw.size)
    clear hf
    go_wp2
    go_ret2
    exact ⟨rfl, hb2⟩
  · obtain ⟨m, hm⟩ : ∃ m : Int, m = (now - a) / 10 := ⟨_, rfl⟩
    obtain ⟨T, hT⟩ : ∃ T : Int, T = max 0 (min (t + min m 5) 5) := ⟨_, rfl⟩
    have hm0 : 0 ≤ m := by omega
    have hm1 : m * 10 ≤ now - a := by omega
    have e : tokM t a now = if T = 5 then (5, now) else (T, a + m * 10) := by unfold tokM; rw [if_neg h, hT, hm]
    obtain ⟨X1, hX1⟩ : ∃ x, x = (tokM t a now).1 := ⟨_, rfl⟩
    obtain ⟨X2, hX2⟩ : ∃ x, x = (tokM t a now).2 := ⟨_, rfl⟩
    rw [← hX1, ← hX2]
    rw [e] at hX1 hX2
    have HX1 := Lib.hid hX1
    have HX2 := Lib.hid hX2
    clear hX1 hX2
    have HM := Lib.hid hm
    have HT := Lib.hid hT
    clear e hm hT
    rw [hrv]
    have h' : a < now := by omega
    clear h
    go_enter Try.func19, Try.ntmps19
    go_wp2_with (refine (show wpList _ _ _ (⟨some 18, _, _, _, _, _⟩ :: _) _ _ from stop_here ?_))
    refine Stop.go (wpList_val rfl (r_subI rfl rfl ⟨rfl, by omega, by omega⟩) ?_)
    go_wp2_with (refine (show wpList _ _ _ (⟨some 19, _, _, _, _, _⟩ :: _) _ _ from stop_here ?_))
    refine Stop.go (wpList_val rfl (r_quoI rfl rfl ⟨by omega, by omega⟩ (by decide) HM.out.symm) ?_)
    go_wp2
    rw [← hrv]
    generalize w.alloc (.cells (recV p nm t a v) 28) = w1 at *
    have hc6 : w1.cell? ⟨w.heap.size, 0 + 20, none⟩ = some (.int .i64 t) := by rw [hR.cell]; rfl
    have hc7 : w1.cell? ⟨w.heap.size, 0 + 21, none⟩ = some (.int .i64 a) := by rw [hR.cell]; rfl
    have hx : ∀ {u u' : World}, ExtM 5 w1.heap.size w1 u → Below u.heap.size u u' → ExtM 5 w1.heap.size u u' := fun h k => ExtM.of k h.below.size
    refine wp_region_VE (bt := 5) (fun _ => true) (fun ix => (lookL [.agg #[.int .i64 0, .int .i64 5], .pointer (some ⟨w.heap.size, 0 + 20, none⟩), .int .i64 t, .int .i64 m, .int .i64 (min m 5), .int .i64 (t + min m 5), .int .i64 T, .int .i64 T] ix).getD undef) (fun _ _ _ => True) (by kernel_rfl) (by kernel_rfl) (by kernel_rfl) (fun _ _ _ _ _ _ => trivial) fun x => ?_
    refine VE_call (v := .agg #[.int .i64 0, .int .i64 5]) (f := 35) (args := #[]) rfl rfl rfl (fun u => r_call pf35 (by simp) rfl) (fun u hu hf => ?_) ?_
    · refine (bucket_any u).mono ?_
      rintro _ u' ⟨rfl, hb⟩
      exact ⟨rfl, hx hu hb⟩
    refine VE_ex (v := .pointer (some ⟨w.heap.size, 0 + 20, none⟩)) rfl rfl rfl (fun u hu hf => r_fieldAddr (rho_base rfl rfl) fld28_6) ?_
    refine VE_ex (v := .int .i64 t) rfl rfl rfl (fun u hu hf => r_load (rho_env rfl) on3 (hu.cell hc6)) ?_
    refine VE_ex (v := .int .i64 m) rfl rfl rfl (fun u hu hf => r_move (rho_base rfl rfl)) ?_
    refine VE_ex (v := .int .i64 (min m 5)) rfl rfl rfl (fun u hu hf => r_min (rho_env rfl) rho_const rfl) ?_
    refine VE_ex (v := .int .i64 (t + min m 5)) rfl rfl rfl (fun u hu hf => r_addI (rho_env rfl) (rho_env rfl) ⟨rfl, by omega⟩) ?_
    refine VE_call (v := .int .i64 T) (f := 36) (args := #[.agg #[.int .i64 0, .int .i64 5], .int .i64 (t + min m 5)]) rfl rfl rfl (fun u => r_call pf36 (map2 (rho_env rfl) (rho_env rfl)) rfl) (fun u hu hf => ?_) ?_
    · refine (into_any _ u).mono ?_
      rintro _ u' ⟨rfl, hb⟩
      exact ⟨by rw [HT.out], hx hu hb⟩
    refine VE_ex (v := .int .i64 T) rfl rfl rfl (fun u hu hf => r_assign (rho_env rfl)) ?_
    refine VE_nil fun u hu hf => ?_
    rw [withEnv_norm (rfl : setsL _ 0 _ = [_, _, _, _, _, _, _, _, _, _, _, _, _, _, _, _, _, _, _, _, _, _, _, _, _, _, _, _, _, _, _, _, _, _, _, _, _])]
    have hb2 := hbw.trans (hu.below.mono hbw.size)
    have hc7' := hu.cell hc7
    clear hf hc6 hc7 hbw hR hx hu
    by_cases hT5 : T = 5
    · subst hT5
      have H1 : Hid (X1 = 5) := Lib.hid (by rw [HX1.out]; rfl)
      have H2 : Hid (X2 = now) := Lib.hid (by rw [HX2.out]; rfl)
      go_wp2
      go_ret2
      exact ⟨by rw [H1.out, H2.out]; rfl, hb2⟩
    · have h5 : (T == 5) = false := by simpa using hT5
      have H1 : Hid (X1 = T) := Lib.hid (by rw [HX1.out, if_neg hT5])
      have H2 : Hid (X2 = a + m * 10) := Lib.hid (by rw [HX2.out, if_neg hT5])
      clear hT5
      go_wp2
      refine wp_region_VE (bt := 5) (fun _ => true) (fun ix => (lookL [.int .i64 T, .pointer (some ⟨w.heap.size, 0 + 21, none⟩), .int .i64 a, .int .i64 m, .int .i64 (m * 10), .int .i64 (a + m * 10), .int .i64 T, .int .i64 (a + m * 10)] ix).getD undef) (fun _ _ _ => True) (by kernel_rfl) (by kernel_rfl) (by kernel_rfl) (fun _ _ _ _ _ _ => trivial) fun x => ?_
      refine VE_ex (v := .int .i64 T) rfl rfl rfl (fun u hu hf => r_move (rho_base rfl rfl)) ?_
      refine VE_ex (v := .pointer (some ⟨w.heap.size, 0 + 21, none⟩)) rfl rfl rfl (fun u hu hf => r_fieldAddr (rho_base rfl rfl) fld28_7) ?_
      refine VE_ex (v := .int .i64 a) rfl rfl rfl (fun u hu hf => r_load (rho_env rfl) on3 (hu.cell hc7')) ?_
      refine VE_ex (v := .int .i64 m) rfl rfl rfl (fun u hu hf => r_move (rho_base rfl rfl)) ?_
      refine VE_ex (v := .int .i64 (m * 10)) rfl rfl rfl (fun u hu hf => r_mulI (rho_env rfl) rho_const ⟨rfl, by omega⟩) ?_
      refine VE_ex (v := .int .i64 (a + m * 10)) rfl rfl rfl (fun u hu hf => r_addI (rho_env rfl) (rho_env rfl) ⟨rfl, by omega⟩) ?_
      refine VE_ex (v := .int .i64 T) rfl rfl rfl (fun u hu hf => r_assign (rho_env rfl)) ?_
      refine VE_ex (v := .int .i64 (a + m * 10)) rfl rfl rfl (fun u hu hf => r_assign (rho_env rfl)) ?_
      refine VE_nil fun u hu hf => ?_
      rw [withEnv_norm (rfl : setsL _ 0 _ = [_, _, _, _, _, _, _, _, _, _, _, _, _, _, _, _, _, _, _, _, _, _, _, _, _, _, _, _, _, _, _, _, _, _, _, _, _])]
      have hb3 := hb2.trans (hu.below.mono hb2.size)
      clear hf
      go_wp2
      go_ret2
      exact ⟨by rw [H1.out, H2.out]; rfl, hb3⟩
end Go.Proofs.Ythpjihiikkhcjaa
namespace Go.Sp
open Go.RowKit
section
variable {P : Program} {hd : Nat → Bool} {xh : Nat → Value} {Sc : World → Prop} {S : List Value → World → Prop} {a : Act} {fin : Act → World → Prop} {rest : List Oper} {i : Nat} {e : Env} {vs : List Value} {op : Op} {ty : TypeId} {pos : String} {aft : Array Edge} {gd : Option (Nat × Bool)}
theorem HE_store (hh : hd i = false) (h : ∀ u, S vs u → ∃ u', (execOp (rhoE a e) ⟨none, op, ty, pos, aft, gd⟩).run P u = .ok .skip u' ∧ ∀ v, S (vs ++ [v]) u') (k : ∀ v, stepsHE P hd xh Sc S a fin rest (i + 1) e (vs ++ [v])) : stepsHE P hd xh Sc S a fin (⟨none, op, ty, pos, aft, gd⟩ :: rest) i e vs := by
  unfold stepsHE; rw [if_neg (by simp [hh])]
  refine ⟨fun u hu => ?_, k⟩
  obtain ⟨u', hr, hs⟩ := h u hu
  rw [hr]; exact hs _
end
end Go.Sp
namespace Go.Proofs.Ythpjihiikkhcjaa
open Go.RowKit Go.Sp
theorem clone_nil (w : World) : Calls Try.prog 57 #[.slice none 0 0] w fun e w' => e = .returned (.slice none 0 0) ∧ w' = w := by
  have hk := fun (w : World) a n c => Lib.run_eql_slice_nil (P := Try.prog) w 23 5 a n c 0 0 Try.underlying23
  go_enter Try.func57, Try.ntmps57
  go_wp2
  go_ret
  exact ⟨rfl, rfl⟩
theorem pf57 : plainFn Try.prog 57 = true := by kernel_rfl
theorem fld28_2 : fieldOff Try.prog 28 2 = some 2 := by kernel_rfl
theorem fld28_5 : fieldOff Try.prog 28 5 = some 19 := by kernel_rfl
theorem on23 : oneT Try.prog 23 = true := by kernel_rfl
theorem size28 (p : Int) (nm : ByteArray) (t a v : Int) : (Try.prog.info? 28).map (·.size) = some (recV p nm t a v).size := by
  rw [show (recV p nm t a v).size = 23 from rfl]; kernel_rfl
theorem os23 : oneS Try.prog 23 = true := by kernel_rfl
def hd48 (i : Nat) : Bool := !([2, 5, 7, 9].contains i)
def S48 (w : World) (g : Nat) (R : Array Value) (vs : List Value) (u : World) : Prop :=
  (∀ x ∈ vs.take 2, x = .slice none 0 0) ∧ Blk u w.heap.size R 28 ∧ Blk u g (recV 0 ⟨#[]⟩ 0 0 0) 28 ∧ Below w.heap.size w u
set_option maxRecDepth 100000 in
set_option maxHeartbeats 2000000 in
theorem with_any (p : Int) (nm : ByteArray) (t a v n at_ : Int) (w : World) :
    Calls Try.prog 48 #[.agg (recV p nm t a v), .int .i64 n, .int .i64 at_] w fun e w' => e = .returned (.agg (recV p nm (max 0 (min n 5)) at_ v)) ∧ Below w.heap.size w w' := by
  have hrv : recV p nm t a v = #[.int .i64 p, .string nm, .slice none 0 0, .int .u32 0, .int .u32 0, .int .u32 0, .int .u32 0, .int .u32 0, .int .u32 0, .int .u32 0, .int .u32 0, .int .u32 0, .int .u32 0, .int .u32 0, .int .u32 0, .int .u32 0, .int .u32 0, .int .u32 0, .int .u32 0, .slice none 0 0, .int .i64 t, .int .i64 a, .int .i64 v] := rfl
  have hrz : recV 0 ⟨#[]⟩ 0 0 0 = #[.int .i64 0, .string ⟨#[]⟩, .slice none 0 0, .int .u32 0, .int .u32 0, .int .u32 0, .int .u32 0, .int .u32 0, .int .u32 0, .int .u32 0, .int .u32 0, .int .u32 0, .int .u32 0, .int .u32 0, .int .u32 0, .int .u32 0, .int .u32 0, .int .u32 0, .int .u32 0, .slice none 0 0, .int .i64 0, .int .i64 0, .int .i64 0] := rfl
  have hR3 : Blk ((w.alloc (.cells (recV p nm t a v) 28)).alloc (.cells (recV 0 ⟨#[]⟩ 0 0 0) 28)) w.heap.size (recV p nm t a v) 28 := (Blk.new w _ 28).alloc _
  have hR6 : Blk ((w.alloc (.cells (recV p nm t a v) 28)).alloc (.cells (recV 0 ⟨#[]⟩ 0 0 0) 28)) (w.heap.size + 1) (recV 0 ⟨#[]⟩ 0 0 0) 28 := Blk.newAt (by simp) _ 28
  have hbw : Below w.heap.size w ((w.alloc (.cells (recV p nm t a v) 28)).alloc (.cells (recV 0 ⟨#[]⟩ 0 0 0) 28)) := ((Below.refl _ _).alloc (Nat.le_refl _) _).alloc (by simp) _
  obtain ⟨w1, hw1⟩ : ∃ u, u = (w.alloc (.cells (recV p nm t a v) 28)).alloc (.cells (recV 0 ⟨#[]⟩ 0 0 0) 28) := ⟨_, rfl⟩
  rw [← hw1] at hR3 hR6 hbw
  rw [hrv, hrz] at hw1
  rw [hrv]
  have HW := Lib.hid hw1
  have HRV := Lib.hid hrv
  have HRZ := Lib.hid hrz
  clear hw1 hrv hrz
  go_enter Try.func48, Try.ntmps48
  go_wp2_with fail
  rw [← HW.out]
  clear HW
  refine (bucket_any _).mono ?_
  rintro _ w2 ⟨rfl, hb2⟩
  go_wp2_with fail
  refine (into_any n _).mono ?_
  rintro _ w3 ⟨rfl, hb3⟩
  have hb13 := hb2.trans (hb3.mono hb2.size)
  have hR33 := hR3.ext hb13
  have hR63 := hR6.ext hb13
  have hbw3 := hbw.trans (hb13.mono hbw.size)
  have hl6 := hR63.lt
  clear hb2 hb3 hb13 hR3 hR6 hbw
  obtain ⟨T, hT⟩ : ∃ T : Int, T = max 0 (min n 5) := ⟨_, rfl⟩
  rw [← hT]
  have HT := Lib.hid hT
  clear hT
  rw [HRV.out] at hR33
  have hbc := hR33.cell
  have hbf := hR33.frozen
  go_wp2
  rw [← HRV.out] at hR33
  have hR34 : Blk ((w3.setCell ⟨w.heap.size, 20, none⟩ (.int .i64 T)).setCell ⟨w.heap.size, 21, none⟩ (.int .i64 at_)) w.heap.size (recV p nm T at_ v) 28 := (hR33.set 20 _).set 21 _
  have hR64 := (hR63.setOther ⟨w.heap.size, 20, none⟩ (.int .i64 T) (by show w.heap.size + 1 ≠ w.heap.size; omega)).setOther ⟨w.heap.size, 21, none⟩ (.int .i64 at_) (by show w.heap.size + 1 ≠ w.heap.size; omega)
  have hbw4 := (hbw3.setCell (p := ⟨w.heap.size, 20, none⟩) (Nat.le_refl _) (.int .i64 T)).setCell (p := ⟨w.heap.size, 21, none⟩) (Nat.le_refl _) (.int .i64 at_)
  generalize (w3.setCell ⟨w.heap.size, 20, none⟩ (.int .i64 T)).setCell ⟨w.heap.size, 21, none⟩ (.int .i64 at_) = w4 at *
  clear hbc hbf hR33 hR63 hbw3
  refine wp_region_HE hd48 (fun ix => (lookL [.pointer (some ⟨w.heap.size, 0 + 2, none⟩), .slice none 0 0, undef, .pointer (some ⟨w.heap.size, 0 + 19, none⟩), .slice none 0 0, undef, .pointer (some ⟨w.heap.size, 0 + 2, none⟩), undef, .pointer (some ⟨w.heap.size, 0 + 19, none⟩), undef] ix).getD undef) (fun u => Blk u w.heap.size (recV p nm T at_ v) 28) (S48 w (w.heap.size + 1) (recV p nm T at_ v)) (by kernel_rfl) (by kernel_rfl) (by kernel_rfl) (fun vs u h => h.2.1) ⟨fun x hx => (by cases hx), hR34.drew, hR64.drew, hbw4.drew⟩ ?_
  refine HE_head (v := .pointer (some ⟨w.heap.size, 0 + 2, none⟩)) rfl rfl (fun u hu => r_fieldAddr (rho_base rfl rfl) fld28_2) ?_
  refine HE_head (v := .slice none 0 0) rfl rfl (fun u hu => r_load (rho_env rfl) on23 (by rw [hu.cell]; rfl)) ?_
  refine HE_call (f := 57) (args := #[.slice none 0 0]) rfl (fun u => r_call pf57 (map1 (rho_env rfl)) rfl) (fun u hu => (clone_nil u).mono ?_) fun v1 => ?_
  · rintro _ u' ⟨rfl, rfl⟩
    exact ⟨_, rfl, fun x hx => by simpa using hx, hu.2⟩
  refine HE_head (v := .pointer (some ⟨w.heap.size, 0 + 19, none⟩)) rfl rfl (fun u hu => r_fieldAddr (rho_base rfl rfl) fld28_5) ?_
  refine HE_head (v := .slice none 0 0) rfl rfl (fun u hu => r_load (rho_env rfl) on23 (by rw [hu.cell]; rfl)) ?_
  refine HE_call (f := 57) (args := #[.slice none 0 0]) rfl (fun u => r_call pf57 (map1 (rho_env rfl)) rfl) (fun u hu => (clone_nil u).mono ?_) fun v2 => ?_
  · rintro _ u' ⟨rfl, rfl⟩
    refine ⟨_, rfl, fun x hx => ?_, hu.2⟩
    simp at hx
    rcases hx with rfl | rfl
    · exact hu.1 _ (by simp)
    · rfl
  refine HE_head (v := .pointer (some ⟨w.heap.size, 0 + 2, none⟩)) rfl rfl (fun u hu => r_fieldAddr (rho_base rfl rfl) fld28_2) ?_
  refine HE_store rfl (fun u hu => ?_) fun v3 => ?_
  · have h1 := hu.1 v1 (by simp)
    subst h1
    exact ⟨_, r_store1 (rho_env rfl) (rho_env rfl) os23 (by rw [hu.2.1.cell]; rfl) (hu.2.1.frozen _) rfl, fun _ => ⟨hu.1, hu.2.1.set 2 (.slice none 0 0), hu.2.2.1.setOther _ _ (by show w.heap.size + 1 ≠ w.heap.size; omega), hu.2.2.2.setCell (Nat.le_refl _) _⟩⟩
  refine HE_head (v := .pointer (some ⟨w.heap.size, 0 + 19, none⟩)) rfl rfl (fun u hu => r_fieldAddr (rho_base rfl rfl) fld28_5) ?_
  refine HE_store rfl (fun u hu => ?_) fun v4 => ?_
  · have h2 := hu.1 v2 (by simp)
    subst h2
    exact ⟨_, r_store1 (rho_env rfl) (rho_env rfl) os23 (by rw [hu.2.1.cell]; rfl) (hu.2.1.frozen _) rfl, fun _ => ⟨hu.1, hu.2.1.set 19 (.slice none 0 0), hu.2.2.1.setOther _ _ (by show w.heap.size + 1 ≠ w.heap.size; omega), hu.2.2.2.setCell (Nat.le_refl _) _⟩⟩
  refine HE_nil fun u hu => ?_
  obtain ⟨_, hR35, hR65, hbw5⟩ := hu
  clear hR34 hR64 hbw4
  rw [withEnv_norm (rfl : setsL _ 0 _ = [_, _, _, _, _, _, _, _, _, _, _, _, _, _, _, _, _, _, _, _, _, _])]
  go_wp2_with (refine (show wpList _ _ _ (⟨some 21, .load 28 (.tmp 3), _, _, _, _⟩ :: _) _ _ from stop_here ?_))
  refine Stop.go (wpList_val rfl (r_loadBlk rfl hR35 Try.underlying28 rfl (size28 _ _ _ _ _)) ?_)
  go_wp2_with (refine (show wpList _ _ _ (⟨none, .store 28 (.tmp 6) (.tmp 21), _, _, _, _⟩ :: _) _ _ from stop_here ?_))
  refine Stop.go (wpList_store_blk rfl rfl rfl rfl hR65 rfl (size28 _ _ _ _ _) (by simp [recV, Value.oneCell']) ?_)
  intro w6 hR66 hO6
  have hbw6 := hbw5.trans (hO6.below (by omega) hbw5.size)
  clear hO6 hR35 hR65 hbw5
  go_wp2
  exact bodyPost_ret (results_cell_row rfl _ _ (w.heap.size + 1) 28 _ (0, 0) _ rfl hR66 Try.underlying28 rfl (size28 _ _ _ _ _)) rfl ⟨by rw [HT.out], hbw6⟩
end Go.Proofs.Ythpjihiikkhcjaa
namespace Go.Sp
open Go.RowKit
theorem tokM_bounds (t a now : Int) (ht : 0 ≤ t ∧ t ≤ 5) : 0 ≤ (tokM t a now).1 ∧ (tokM t a now).1 ≤ 5 := by
  unfold tokM
  split
  · exact ht
  · split <;> simp only <;> omega
/-- What is charged. -/
def chM (p : Int) (nm : ByteArray) (t a v now : Int) : Array Value × Bool :=
  if (tokM t a now).1 < 1 then (recV 0 ⟨#[]⟩ 0 0 0, false) else (recV p nm ((tokM t a now).1 - 1) (tokM t a now).2 v, true)
/-- What is refunded. -/
def rfM (p : Int) (nm : ByteArray) (t a v now : Int) : Array Value := recV p nm (min ((tokM t a now).1 + 1) 5) (tokM t a now).2 v
theorem results_row_tmp {P : Program} {fn : Func} {p u : Tmp} {ty : TypeId} (h : fn.results = #[.cell p ty, .tmp u]) (tmps : Array Value) (w : World) (g : Nat) (t : TypeId) (cs : Array Value) (fr : Nat × Nat) (d : TypeDesc)
    (hp : tmps.getD p undef = .pointer (some ⟨g, 0, none⟩)) (hg : w.heap[g]? = some (.cells cs t fr))
    (hu : P.underlying ty = some d) (hd : (match d with | .struct _ | .array _ _ => true | _ => false) = true) (hi : (P.info? ty).map (·.size) = some cs.size) :
    (results fn tmps).run P w = .ok (.tuple #[.agg cs, tmps.getD u undef]) w := by
  rw [results_cell_tmp h, hp]
  simp [asAddr, run_loadVar_row w g t ty cs fr d hg hu hd hi]
end Go.Sp
namespace Go.Proofs.Ythpjihiikkhcjaa
open Go.RowKit Go.Sp
set_option maxRecDepth 100000 in
set_option maxHeartbeats 2000000 in
theorem charge_any (p : Int) (nm : ByteArray) (t a v now : Int) (w : World) (ht : 0 ≤ t ∧ t ≤ 5) (ha : 0 ≤ a ∧ a ≤ 1000000000000) (hn : -9223372036854775808 ≤ now ∧ now ≤ 9223372036854775807) :
    Calls Try.prog 28 #[.agg (recV p nm t a v), .int .i64 now] w fun e w' => e = .returned (.tuple #[.agg (chM p nm t a v now).1, .bool (chM p nm t a v now).2]) ∧ Below w.heap.size w w' := by
  have hrv : recV p nm t a v = #[.int .i64 p, .string nm, .slice none 0 0, .int .u32 0, .int .u32 0, .int .u32 0, .int .u32 0, .int .u32 0, .int .u32 0, .int .u32 0, .int .u32 0, .int .u32 0, .int .u32 0, .int .u32 0, .int .u32 0, .int .u32 0, .int .u32 0, .int .u32 0, .int .u32 0, .slice none 0 0, .int .i64 t, .int .i64 a, .int .i64 v] := rfl
  have hrz : recV 0 ⟨#[]⟩ 0 0 0 = #[.int .i64 0, .string ⟨#[]⟩, .slice none 0 0, .int .u32 0, .int .u32 0, .int .u32 0, .int .u32 0, .int .u32 0, .int .u32 0, .int .u32 0, .int .u32 0, .int .u32 0, .int .u32 0, .int .u32 0, .int .u32 0, .int .u32 0, .int .u32 0, .int .u32 0, .int .u32 0, .slice none 0 0, .int .i64 0, .int .i64 0, .int .i64 0] := rfl
  have hR2 : Blk ((w.alloc (.cells (recV p nm t a v) 28)).alloc (.cells (recV 0 ⟨#[]⟩ 0 0 0) 28)) w.heap.size (recV p nm t a v) 28 := (Blk.new w _ 28).alloc _
  have hR4 : Blk ((w.alloc (.cells (recV p nm t a v) 28)).alloc (.cells (recV 0 ⟨#[]⟩ 0 0 0) 28)) (w.heap.size + 1) (recV 0 ⟨#[]⟩ 0 0 0) 28 := Blk.newAt (by simp) _ 28
  have hbw : Below w.heap.size w ((w.alloc (.cells (recV p nm t a v) 28)).alloc (.cells (recV 0 ⟨#[]⟩ 0 0 0) 28)) := ((Below.refl _ _).alloc (Nat.le_refl _) _).alloc (by simp) _
  obtain ⟨w1, hw1⟩ : ∃ u, u = (w.alloc (.cells (recV p nm t a v) 28)).alloc (.cells (recV 0 ⟨#[]⟩ 0 0 0) 28) := ⟨_, rfl⟩
  rw [← hw1] at hR2 hR4 hbw
  rw [hrv, hrz] at hw1
  rw [hrv]
  have HW := Lib.hid hw1
  have HRV := Lib.hid hrv
  have HRZ := Lib.hid hrz
  clear hw1 hrv hrz
  obtain ⟨C, hC⟩ : ∃ C, C = chM p nm t a v now := ⟨_, rfl⟩
  rw [← hC]
  have HC := Lib.hid hC
  clear hC
  go_enter Try.func28, Try.ntmps28
  go_wp2_with (refine (show wpList _ _ _ (⟨some 9, .load 28 (.tmp 2), _, _, _, _⟩ :: _) _ _ from stop_here ?_))
  rw [← HW.out]
  clear HW
  refine Stop.go (wpList_val rfl (r_loadBlk rfl hR2 Try.underlying28 rfl (size28 _ _ _ _ _)) ?_)
  go_wp2_with fail
  refine (tokens_any p nm t a v now _ ht ha hn).mono ?_
  rintro _ w2 ⟨rfl, hb2⟩
  have hR22 := hR2.ext hb2
  have hR42 := hR4.ext hb2
  have hbw2 := hbw.trans (hb2.mono hbw.size)
  have hl4 := hR42.lt
  have hkb := tokM_bounds t a now ht
  clear hb2 hR2 hR4 hbw
  obtain ⟨k, hk⟩ : ∃ k, k = (tokM t a now).1 := ⟨_, rfl⟩
  obtain ⟨at_, hat⟩ : ∃ k, k = (tokM t a now).2 := ⟨_, rfl⟩
  rw [← hk, ← hat]
  rw [← hk] at hkb
  have HKT := Lib.hid hk
  have HAT := Lib.hid hat
  clear hk hat
  by_cases hk1 : k < 1
  · have HC1 : Hid (C = (recV 0 ⟨#[]⟩ 0 0 0, false)) := Lib.hid (by rw [HC.out]; unfold chM; rw [← HKT.out, if_pos hk1])
    go_wp2_with (refine (show wpList _ _ _ (⟨none, .store 28 (.tmp 4) (.tmp 16), _, _, _, _⟩ :: _) _ _ from stop_here ?_))
    refine Stop.go (wpList_store_blk rfl rfl rfl rfl hR42 rfl (size28 _ _ _ _ _) (by simp [Value.oneCell']) ?_)
    intro wz hRz hOz
    have hbwz := hbw2.trans (hOz.below (by omega) hbw2.size)
    clear hOz
    go_wp2
    exact bodyPost_ret (results_row_tmp rfl _ _ (w.heap.size + 1) 28 _ (0, 0) _ rfl hRz Try.underlying28 rfl (size28 _ _ _ _ _)) rfl ⟨by rw [HC1.out]; rfl, hbwz⟩
  · have HC1 : Hid (C = (recV p nm (k - 1) at_ v, true)) := Lib.hid (by rw [HC.out]; unfold chM; rw [← HKT.out, ← HAT.out, if_neg hk1])
    go_wp2_with (refine (show wpList _ _ _ (⟨some 17, .load 28 (.tmp 2), _, _, _, _⟩ :: _) _ _ from stop_here ?_))
    refine Stop.go (wpList_val rfl (r_loadBlk rfl hR22 Try.underlying28 rfl (size28 _ _ _ _ _)) ?_)
    go_wp2_with fail
    refine (with_any p nm t a v (k - 1) at_ _).mono ?_
    rintro _ w3 ⟨rfl, hb3⟩
    rw [show max 0 (min (k - 1) 5) = k - 1 by omega]
    have hR43 := hR42.ext hb3
    have hbw3 := hbw2.trans (hb3.mono hbw2.size)
    clear hb3 hR42 hR22 hbw2
    go_wp2_with (refine (show wpList _ _ _ (⟨none, .store 28 (.tmp 4) (.tmp 21), _, _, _, _⟩ :: _) _ _ from stop_here ?_))
    refine Stop.go (wpList_store_blk rfl rfl rfl rfl hR43 rfl (size28 _ _ _ _ _) (by simp [recV, Value.oneCell']) ?_)
    intro wz hRz hOz
    have hbwz := hbw3.trans (hOz.below (by omega) hbw3.size)
    clear hOz
    go_wp2
    exact bodyPost_ret (results_row_tmp rfl _ _ (w.heap.size + 1) 28 _ (0, 0) _ rfl hRz Try.underlying28 rfl (size28 _ _ _ _ _)) rfl ⟨by rw [HC1.out]; rfl, hbwz⟩
set_option maxRecDepth 100000 in
set_option maxHeartbeats 2000000 in
theorem refund_any (p : Int) (nm : ByteArray) (t a v now : Int) (w : World) (ht : 0 ≤ t ∧ t ≤ 5) (ha : 0 ≤ a ∧ a ≤ 1000000000000) (hn : -9223372036854775808 ≤ now ∧ now ≤ 9223372036854775807) :
    Calls Try.prog 33 #[.agg (recV p nm t a v), .int .i64 now] w fun e w' => e = .returned (.agg (rfM p nm t a v now)) ∧ Below w.heap.size w w' := by
  have hrv : recV p nm t a v = #[.int .i64 p, .string nm, .slice none 0 0, .int .u32 0, .int .u32 0, .int .u32 0, .int .u32 0, .int .u32 0, .int .u32 0, .int .u32 0, .int .u32 0, .int .u32 0, .int .u32 0, .int .u32 0, .int .u32 0, .int .u32 0, .int .u32 0, .int .u32 0, .int .u32 0, .slice none 0 0, .int .i64 t, .int .i64 a, .int .i64 v] := rfl
  have hrz : recV 0 ⟨#[]⟩ 0 0 0 = #[.int .i64 0, .string ⟨#[]⟩, .slice none 0 0, .int .u32 0, .int .u32 0, .int .u32 0, .int .u32 0, .int .u32 0, .int .u32 0, .int .u32 0, .int .u32 0, .int .u32 0, .int .u32 0, .int .u32 0, .int .u32 0, .int .u32 0, .int .u32 0, .int .u32 0, .int .u32 0, .slice none 0 0, .int .i64 0, .int .i64 0, .int .i64 0] := rfl
  have hR2 : Blk ((w.alloc (.cells (recV p nm t a v) 28)).alloc (.cells (recV 0 ⟨#[]⟩ 0 0 0) 28)) w.heap.size (recV p nm t a v) 28 := (Blk.new w _ 28).alloc _
  have hR4 : Blk ((w.alloc (.cells (recV p nm t a v) 28)).alloc (.cells (recV 0 ⟨#[]⟩ 0 0 0) 28)) (w.heap.size + 1) (recV 0 ⟨#[]⟩ 0 0 0) 28 := Blk.newAt (by simp) _ 28
  have hbw : Below w.heap.size w ((w.alloc (.cells (recV p nm t a v) 28)).alloc (.cells (recV 0 ⟨#[]⟩ 0 0 0) 28)) := ((Below.refl _ _).alloc (Nat.le_refl _) _).alloc (by simp) _
  obtain ⟨w1, hw1⟩ : ∃ u, u = (w.alloc (.cells (recV p nm t a v) 28)).alloc (.cells (recV 0 ⟨#[]⟩ 0 0 0) 28) := ⟨_, rfl⟩
  rw [← hw1] at hR2 hR4 hbw
  rw [hrv, hrz] at hw1
  rw [hrv]
  have HW := Lib.hid hw1
  have HRV := Lib.hid hrv
  have HRZ := Lib.hid hrz
  clear hw1 hrv hrz
  obtain ⟨C, hC⟩ : ∃ C, C = rfM p nm t a v now := ⟨_, rfl⟩
  rw [← hC]
  have HC := Lib.hid hC
  clear hC
  go_enter Try.func33, Try.ntmps33
  go_wp2_with (refine (show wpList _ _ _ (⟨some 8, .load 28 (.tmp 2), _, _, _, _⟩ :: _) _ _ from stop_here ?_))
  rw [← HW.out]
  clear HW
  refine Stop.go (wpList_val rfl (r_loadBlk rfl hR2 Try.underlying28 rfl (size28 _ _ _ _ _)) ?_)
  go_wp2_with fail
  refine (tokens_any p nm t a v now _ ht ha hn).mono ?_
  rintro _ w2 ⟨rfl, hb2⟩
  have hR22 := hR2.ext hb2
  have hR42 := hR4.ext hb2
  have hbw2 := hbw.trans (hb2.mono hbw.size)
  have hl4 := hR42.lt
  have hkb := tokM_bounds t a now ht
  clear hb2 hR2 hR4 hbw
  obtain ⟨k, hk⟩ : ∃ k, k = (tokM t a now).1 := ⟨_, rfl⟩
  obtain ⟨at_, hat⟩ : ∃ k, k = (tokM t a now).2 := ⟨_, rfl⟩
  rw [← hk, ← hat]
  rw [← hk] at hkb
  have HKT := Lib.hid hk
  have HAT := Lib.hid hat
  clear hk hat
  have HC1 : Hid (C = recV p nm (min (k + 1) 5) at_ v) := Lib.hid (by rw [HC.out]; unfold rfM; rw [← HKT.out, ← HAT.out])
  go_wp2_with (refine (show wpList _ _ _ (⟨some 13, .load 28 (.tmp 2), _, _, _, _⟩ :: _) _ _ from stop_here ?_))
  refine Stop.go (wpList_val rfl (r_loadBlk rfl hR22 Try.underlying28 rfl (size28 _ _ _ _ _)) ?_)
  go_wp2_with fail
  refine (with_any p nm t a v (k + 1) at_ _).mono ?_
  rintro _ w3 ⟨rfl, hb3⟩
  rw [show max 0 (min (k + 1) 5) = min (k + 1) 5 by omega]
  have hR43 := hR42.ext hb3
  have hbw3 := hbw2.trans (hb3.mono hbw2.size)
  clear hb3 hR42 hR22 hbw2
  go_wp2_with (refine (show wpList _ _ _ (⟨none, .store 28 (.tmp 4) (.tmp 17), _, _, _, _⟩ :: _) _ _ from stop_here ?_))
  refine Stop.go (wpList_store_blk rfl rfl rfl rfl hR43 rfl (size28 _ _ _ _ _) (by simp [recV, Value.oneCell']) ?_)
  intro wz hRz hOz
  have hbwz := hbw3.trans (hOz.below (by omega) hbw3.size)
  clear hOz
  go_wp2
  exact bodyPost_ret (results_cell_row rfl _ _ (w.heap.size + 1) 28 _ (0, 0) _ rfl hRz Try.underlying28 rfl (size28 _ _ _ _ _)) rfl ⟨by rw [HC1.out], hbwz⟩
end Go.Proofs.Ythpjihiikkhcjaa
