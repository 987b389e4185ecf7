/-
  A part of the proofs of this seat: laws of the walk, or contracts of the functions that the statements reach. No conditions but those that each theorem names.
-/
import Derived.Test.YtbbpcgodjncflaaV
import Derived.Test.YtbbpcgodjncflaaOps
import Derived.WalkKit
import Derived.OwnWalkIn
import Derived.TacticsInMore
namespace Go.Sp
open Go.RowKit
theorem macB_length (key : List UInt8) (ls : List (List UInt8)) : (macB key ls).length = 16 := sumB_length _ _
/-- The sums of a key, one behind the other: k of them. -/
def strm (key : List UInt8) (k : Nat) : List UInt8 := (List.range k).flatMap fun (i : Nat) => macB key [eight (i : Int)]
theorem strm_succ (key : List UInt8) (k : Nat) : strm key (k + 1) = strm key k ++ macB key [eight k] := by simp [strm, List.range_succ]
theorem strm_length (key : List UInt8) : ∀ k : Nat, (strm key k).length = 16 * k
  | 0 => rfl
  | k + 1 => by rw [strm_succ, List.length_append, strm_length key k, macB_length]; omega
def streamB (key : List UInt8) (n : Nat) : List UInt8 := (strm key ((n + 15) / 16)).take n
theorem Byt.take {w : World} {a : Option Addr} {L c : Nat} {l : List UInt8} (h : Byt w (.slice a L c) l) (n : Nat) (hn : n ≤ l.length) (h0 : 0 < l.length) : Byt w (.slice a n c) (l.take n) := by
  rcases h with ⟨h, rfl⟩ | ⟨g, off, cap, hv, h1, h2, h3, h4⟩
  · simp at h0
  · simp only [Value.slice.injEq] at hv
    obtain ⟨rfl, rfl, rfl⟩ := hv
    refine .inr ⟨g, off, c, by simp; omega, by simp; omega, h2, h3, fun i b hi => ?_⟩
    rw [List.getElem?_take] at hi
    split at hi
    · exact h4 i b hi
    · cases hi
/-- What a round of the stream keeps. -/
structure StI (w : World) (n : Nat) (kv : Value) (key : List UInt8) (k : Nat) (W : World) : Prop where
  bn : Blk W w.heap.size #[.int .i64 n] 3
  bk : Blk W (w.heap.size + 2) #[kv] 29
  bo : ∃ v, Blk W (w.heap.size + 1) #[v] 29 ∧ Sp.Own 5 (w.heap.size + 3) W v (strm key k)
  below : Below w.heap.size w W
theorem Blk.grown {W W' : World} {row : Option Nat} {g : Nat} {cs : Array Value} {t : TypeId} (h : Blk W g cs t) (hg : W.grownBy W' row) (hr : row ≠ some g) : Blk W' g cs t :=
  (hg.block g h.lt (Ne.symm hr)).trans h
theorem StI.kept {w : World} {n : Nat} {kv : Value} {key : List UInt8} : OwnFrom (w.heap.size + 3) (fun k W => StI w n kv key k W) := by
  rintro k W W' row ⟨h1, h2, ⟨v, h3, h4⟩, h5⟩ hg hr
  have ne : ∀ j, j < w.heap.size + 3 → row ≠ some j := fun j hj e => by have := (hr j e).1; omega
  refine ⟨h1.grown hg (ne _ (by omega)), h2.grown hg (ne _ (by omega)), ⟨v, h3.grown hg (ne _ (by omega)), ?_⟩, h5.grown hg h5.size (fun j e => by have := (hr j e).1; omega)⟩
  refine World.ownsRow.kept h4 hg ?_
  by_cases hv : v.ownBlock = none
  · exact .inl hv
  · refine .inr fun e => ?_
    obtain ⟨j, hj⟩ := Option.ne_none_iff_exists'.1 hv
    obtain ⟨_, o, ho, hc⟩ := hr j (by rw [← e, hj])
    rcases h4.2 with ⟨rfl, _⟩ | ⟨g, cap, cur, rfl, _, hg', _⟩
    · cases hj
    · simp [Value.ownBlock] at hj
      subst hj
      rw [hg'] at ho
      cases ho
      simp [Obj.isCells] at hc
end Go.Sp
namespace Go.Proofs.Ytbbpcgodjncflaa
open Go.RowKit Go.Sp
theorem Only.grown {p : Nat} {a b : World} (h : Only p a b) : a.grownBy b (some p) := ⟨h.os, h.tape, h.output, h.size, fun k hk hn => h.block k hk (fun e => hn (by rw [e]))⟩
theorem Only.others {p : Nat} {a b : World} {cs : Array Value} {t : TypeId} (h : Only p a b) (hB : Blk a p cs t) : KeepsOthers a b :=
  KeepsOthers.of_grownBy (Only.grown h) fun j o e ho => by cases e; rw [hB] at ho; cases ho; rfl
theorem Own.putObj' {e : TypeId} {b D : Nat} {w : World} {v : Value} {l : List UInt8} {o o' : Obj} (h : Sp.Own e b w v l) (hD : w.heap[D]? = some o) (hc : o.isCells = false) : Sp.Own e b (w.putObj D o') v l := by
  refine World.ownsRow.kept h (grownBy_putObj' w D o') ?_
  rcases h.2 with ⟨rfl, _⟩ | ⟨g, cap, cur, rfl, _, hg, _⟩
  · exact .inl rfl
  · refine .inr fun e => ?_
    simp [Value.ownBlock] at e
    subst e
    rw [hg] at hD; cases hD; simp [Obj.isCells] at hc
section
variable {F : Fence} {n : Nat} {P : Program} {hd : Nat → Bool} {xh : Nat → Value} {Sc : World → Prop} {S : List Value → World → Prop} {a : Act} {fin : Act → World → Prop} {rest : List Oper} {i : Nat} {e : Env} {vs : List Value} {op : Op} {ty : TypeId} {pos : String} {aft : Array Edge} {gd : Option (Nat × Bool)}
theorem IE_store (hh : hd i = false) (h : ∀ u, S vs u → ∃ u', (execOp (rhoE a e) ⟨none, op, ty, pos, aft, gd⟩).run P u = .ok .skip u' ∧ ∀ v, S (vs ++ [v]) u') (k : ∀ v, stepsIE F n P hd xh Sc S a fin rest (i + 1) e (vs ++ [v])) : stepsIE F n P hd xh Sc S a fin (⟨none, op, ty, pos, aft, gd⟩ :: rest) i e vs := by
  unfold stepsIE; rw [if_neg (by simp [hh])]
  refine ⟨fun u hu => ?_, k⟩
  obtain ⟨u', hr, hs⟩ := h u hu
  rw [hr]; exact hs _
end
theorem r_alloc35 {ρ : Operand → Value} {d ty pos aft g} (u : World) : (execOp ρ ⟨d, .alloc 35, ty, pos, aft, g⟩).run Try.prog u = .ok (.value (.pointer (some ⟨u.heap.size, 0, none⟩))) (u.alloc (.cells ((List.replicate 16 (0 : UInt8)).map B).toArray 35)) := by
  simp only [execOp]
  go_simp
  rfl
theorem r_sliceArr35 {ρ : Operand → Value} {d ty pos aft g} {x : Operand} {b : Nat} (u : World) (hx : ρ x = .pointer (some ⟨b, 0, none⟩)) : (execOp ρ ⟨d, .slice 35 x none none none, ty, pos, aft, g⟩).run Try.prog u = .ok (.value (.slice (some ⟨b, 0, none⟩) 16 16)) u := by
  simp only [execOp]
  go_simp
set_option maxHeartbeats 400000 in
theorem stream_no (a : Option Addr) (L c : Nat) (n : Int) (hn : n ≤ 0 ∨ 1000 < n) (w : World) :
    Calls Try.prog 29 #[.slice a L c, .int .i64 n] w fun e w' => e = .returned (.slice none 0 0) ∧ Below w.heap.size w w' := by
  have hb : Below w.heap.size w ((w.alloc (.cells #[.int .i64 n] 3)).alloc (.cells #[.slice none 0 0] 29)) := ((Below.refl _ _).alloc (Nat.le_refl _) _).alloc (by simp) _
  rcases hn with hn | hn
  · go_enter Try.func29, Try.ntmps29
    go_wp2
    go_ret
    exact ⟨rfl, hb⟩
  · have h0 : ¬ n ≤ 0 := by omega
    go_enter Try.func29, Try.ntmps29
    go_wp2
    go_ret
    exact ⟨rfl, hb⟩
def hd29 (i : Nat) : Bool := i == 1
def S29 (W : World) (v : Value) (b : Nat) (l : List UInt8) : List Value → World → Prop
  | [], u => u = W.drew
  | [x], u => x = v ∧ u = W.drew
  | [_, x], u => Sp.Own 5 (b + 3) u x l ∧ W.grownBy u v.ownBlock
  | [_, x, _], u => ∃ u1, Sp.Own 5 (b + 3) u1 x l ∧ W.grownBy u1 v.ownBlock ∧ u = u1.setCell ⟨b + 1, 0, none⟩ x
  | _, _ => False
theorem os29 : oneS Try.prog 29 = true := by kernel_rfl
attribute [local go_sem] Oper.semAt_some
set_option maxRecDepth 100000 in
set_option maxHeartbeats 2000000 in
theorem stream_yes (a : Option Addr) (c : Nat) (key : List UInt8) (n : Nat) (hn0 : 0 < n) (hn : n ≤ 1000) (w : World) (hk : Byt w (.slice a key.length c) key) (hkl : key.length ≤ 549755813888) :
    Calls Try.prog 29 #[.slice a key.length c, .int .i64 n] w fun e w' => ∃ v', e = .returned v' ∧ Sp.Own 5 w.heap.size w' v' (streamB key n) ∧ Below w.heap.size w w' := by
  have h1 : ¬ ((n : Int) ≤ 0) := by omega
  have h2 : ¬ ((1000 : Int) < n) := by omega
  refine callsIn_wide.1 (callsIn_of_wp_marks (n := 5) Try.func29 rfl trivial (wpIn_wide.2 ?_))
  simp only [Try.ntmps29, List.size_toArray, List.length_cons, List.length_nil, Nat.reduceAdd, Nat.reduceSub, Array.replicate_succ, Array.replicate_zero, List.push_toArray, List.append_toArray, List.nil_append, List.cons_append]
  go_wp2_with fail
  refine (flow_any _ _ _ _).mono ?_
  rintro _ w1 ⟨rfl, rfl⟩
  go_wp2
  have hb0 : Below w.heap.size w (((w.alloc (.cells #[.int .i64 n] 3)).alloc (.cells #[.slice none 0 0] 29)).alloc (.cells #[.slice a key.length c] 29)) := (((Below.refl _ _).alloc (Nat.le_refl _) _).alloc (by simp) _).alloc (by simp; omega) _
  have hbn : Blk (((w.alloc (.cells #[.int .i64 n] 3)).alloc (.cells #[.slice none 0 0] 29)).alloc (.cells #[.slice a key.length c] 29)) w.heap.size #[.int .i64 n] 3 := ((Blk.new w _ 3).alloc _).alloc _
  have hbo : Blk (((w.alloc (.cells #[.int .i64 n] 3)).alloc (.cells #[.slice none 0 0] 29)).alloc (.cells #[.slice a key.length c] 29)) (w.heap.size + 1) #[.slice none 0 0] 29 := (Blk.newAt (by simp) _ 29).alloc _
  have hbk : Blk (((w.alloc (.cells #[.int .i64 n] 3)).alloc (.cells #[.slice none 0 0] 29)).alloc (.cells #[.slice a key.length c] 29)) (w.heap.size + 2) #[.slice a key.length c] 29 := Blk.newAt (by simp) _ 29
  have hsz : (((w.alloc (.cells #[.int .i64 n] 3)).alloc (.cells #[.slice none 0 0] 29)).alloc (.cells #[.slice a key.length c] 29)).heap.size = w.heap.size + 3 := by simp
  generalize ((w.alloc (.cells #[.int .i64 n] 3)).alloc (.cells #[.slice none 0 0] 29)).alloc (.cells #[.slice a key.length c] 29) = w1 at *
  have HK := Lib.hid hk
  have HB := Lib.hid hsz
  have hK : ∀ k W, StI w n (.slice a key.length c) key k W → W.cell? ⟨w.heap.size + 1 + 1, 0, none⟩ = some (.slice a key.length c) ∧ Byt W (.slice a key.length c) key := fun k W h => ⟨by rw [h.bk.cell]; rfl, HK.out.ext h.below⟩
  refine wp_range_break (n := 5) (gf := 49) (lb := #[.pointer (some ⟨w.heap.size + 1 + 1, 0, none⟩)]) rfl (fun args w => by simp [callFunc, run_program, Try.func49]; rfl) 0 (fun k => .agg ((macB key [eight k]).map B).toArray) n _
    (flow1_any 5 (w.heap.size + 1 + 1) a c key hkl n (by omega) w1)
    (fun k W => StI w n (.slice a key.length c) key k W ∧ 16 * k < n)
    (fun k a1 W => StI w n (.slice a key.length c) key k W ∧ 16 * k < n ∧ ∃ bx, w.heap.size + 3 ≤ bx ∧ Blk W bx ((macB key [eight k]).map B).toArray 35 ∧ (∀ v, W.cell? ⟨w.heap.size + 1, 0, none⟩ = some v → v.ownBlock ≠ some bx) ∧ a1 = ⟨#[.slice a key.length c, .int .i64 n, undef, .pointer (some ⟨w.heap.size, 0, none⟩), .slice none 0 0, .pointer (some ⟨w.heap.size + 1, 0, none⟩), .pointer (some ⟨bx, 0, none⟩), .int .i64 n, .bool false, .bool false, .int .i64 n, .bool false, .bool false, .slice a key.length c, .func (.func 49) #[] #[.pointer (some ⟨w.heap.size + 1 + 1, 0, none⟩)], .agg ((macB key [eight k]).map B).toArray, undef, undef, undef, undef, undef, undef, undef, undef, undef, undef, undef], []⟩)
    (fun W => ∃ k, n ≤ 16 * k ∧ 16 * k < n + 16 ∧ StI w n (.slice a key.length c) key k W)
    (fun k W h => ⟨by have := h.2; omega, hK k W h.1⟩) (fun W ⟨k, _, _, h⟩ => hK k W h) ?_ ?_ ?_ ?_ ?_ ?_ ?_
  · rintro k W W' row ⟨hi, hlt⟩ hg hr
    rw [HB.out] at hr
    exact ⟨StI.kept k W W' row hi hg hr, hlt⟩
  · rintro k a1 W W' row ⟨hi, hlt, bx, hbx, hB, hne, he⟩ hg hr
    rw [HB.out] at hr
    refine ⟨StI.kept k W W' row hi hg hr, hlt, bx, hbx, hB.grown hg fun e => ?_, fun v hv => hne v ?_, he⟩
    · obtain ⟨_, o, ho, hc⟩ := hr bx e
      rw [hB] at ho; cases ho; simp [Obj.isCells] at hc
    · rw [← hv]
      exact (World.cell?_of_block (a := ⟨w.heap.size + 1, 0, none⟩) (hg.block _ (by have := hi.bo.choose_spec.1.lt; exact this) (fun e => by have := (hr _ e.symm).1; simp at this))).symm
  · rintro _ W W' row ⟨k, h3, h4, hi⟩ hg hr
    rw [HB.out] at hr
    exact ⟨k, h3, h4, StI.kept k W W' row hi hg hr⟩
  · exact ⟨⟨hbn, hbk, ⟨_, hbo, Own.nil _ _ _⟩, hb0⟩, by omega⟩
  · rintro l k W ⟨hi, hlt⟩
    refine wpIn_region_lit ?_
    refine wpListIn_val (.inr ⟨l, rfl⟩) rfl rfl (r_alloc35 W) ?_
    have hB1 := Blk.new W ((List.replicate 16 (0 : UInt8)).map B).toArray 35
    have hW1 := Below.refl W.heap.size W |>.alloc (Nat.le_refl _) (.cells ((List.replicate 16 (0 : UInt8)).map B).toArray 35)
    have hsz16 : ((macB key [eight k]).map B).toArray.size = 16 := by simp [macB_length]
    obtain ⟨W2, hr, hB2, hO2, rfl⟩ := r_storeBlk (P := Try.prog) (ρ := (Act.eval ⟨#[.slice a key.length c, .int .i64 n, undef, .pointer (some ⟨w.heap.size, 0, none⟩), .slice none 0 0, .pointer (some ⟨w.heap.size + 1, 0, none⟩), .pointer (some ⟨W.heap.size, 0, none⟩), .int .i64 n, .bool false, .bool false, .int .i64 n, .bool false, .bool false, .slice a key.length c, .func (.func 49) #[] #[.pointer (some ⟨w.heap.size + 1 + 1, 0, none⟩)], .agg ((macB key [eight k]).map B).toArray, undef, undef, undef, undef, undef, undef, undef, undef, undef, undef, undef], []⟩))
      (d := none) (ty := 0) (pos := "") (aft := #[]) (g := none) (t := 35) (x := .tmp 6) (y := .tmp 15) rfl rfl hB1 (by rw [hsz16]; rfl) (by rw [hsz16]; kernel_rfl) (bytes_one _)
    refine wpListIn_skp (.inr ⟨l, rfl⟩) rfl rfl hr ?_
    refine wpListIn_nil ?_
    have hg1 : W.grownBy (W.alloc (.cells ((List.replicate 16 (0 : UInt8)).map B).toArray 35)) none := World.grownBy_alloc W _ none
    have hi1 := StI.kept (w := w) (n := n) (kv := .slice a key.length c) (key := key) k W _ none hi hg1 (fun _ e => by cases e)
    have hlo := hi.bo.choose_spec.1.lt
    have hlk := hi.bk.lt
    have hwW := hi.below.size
    obtain ⟨hn1, hk1, ⟨v, ho1, how⟩, hbel⟩ := hi1
    have hvb : v.ownBlock ≠ some W.heap.size := fun e => by
      obtain ⟨v0, ho0, how0⟩ := hi.bo
      have : v = v0 := by
        have h0 := (ho0.alloc (.cells ((List.replicate 16 (0 : UInt8)).map B).toArray 35)).cell 0
        rw [ho1.cell 0] at h0; simpa using h0
      subst this
      have := (how0.lt _ e).2
      omega
    refine ⟨(KeepsOthers.alloc W _).trans (Only.others hO2 hB1), ⟨hn1.only hO2 (by omega), hk1.only hO2 (by omega), ⟨v, ho1.only hO2 (by omega), how.only hO2 hvb⟩, hbel.trans (hO2.below (by omega) (by simp; omega))⟩, hlt, W.heap.size, by omega, hB2, ?_, rfl⟩
    intro v0 hv0
    have h0 := (ho1.only hO2 (by omega)).cell 0
    rw [hv0] at h0
    simp at h0
    subst h0
    exact hvb
  · rintro l k a1 W ⟨hi, hlt, bx, hbx, hB, hne, rfl⟩
    have hlo := hi.bo.choose_spec.1.lt
    have hlk := hi.bk.lt
    have hwW := hi.below.size
    have HN := Lib.hid hne
    have HS := Lib.hid (strm_succ key k)
    have HL := Lib.hid (strm_length key k)
    have HM := Lib.hid (macB_length key [eight k])
    obtain ⟨hn1, hk1, ⟨v, ho1, how⟩, hbel⟩ := hi
    have hvb := HN.out v (by rw [ho1.cell]; rfl)
    have HW := Lib.hid how
    have HO := Lib.hid ho1
    have HVB := Lib.hid hvb
    have hv1 : v.oneCell' = true := by rcases how.2 with ⟨rfl, _⟩ | ⟨_, _, _, rfl, _⟩ <;> rfl
    clear hne how ho1 hvb
    gi_wp2
    refine wpIn_region_IE (.inr ⟨l, rfl⟩) hd29 (fun _ => .slice (some ⟨bx, 0, none⟩) 16 16) (fun _ => True) (S29 W v w.heap.size (strm key (k + 1))) (by kernel_rfl) (by kernel_rfl) (by kernel_rfl) (by kernel_rfl) (fun _ _ _ => trivial) rfl ?_
    refine IE_run rfl (fun u hu => ?_) fun v1 => ?_
    · cases hu
      exact ⟨_, _, r_load (rho_base rfl rfl) on29 (HO.out.drew.cell 0), rfl, rfl⟩
    refine IE_head rfl rfl (fun u _ => r_sliceArr35 u (rho_base rfl rfl)) ?_
    refine IE_run rfl (fun u hu => ?_) fun v2 => ?_
    · obtain ⟨rfl, rfl⟩ := hu
      have hby : Byt W.drew (.slice (some ⟨bx, 0, none⟩) 16 16) (macB key [eight k]) := by
        have := Byt.ofBlk (l := macB key [eight k]) hB.drew (by rw [HM.out]; simp [maxLen])
        rwa [HM.out] at this
      obtain ⟨v', u', hr, h1, h2, _⟩ := run_append_byt (P := Try.prog) W.drew byt29 29 (w.heap.size + 3) (show Sp.Own 5 (w.heap.size + 3) W.drew v1 (strm key k) from HW.out) hby (by rw [HL.out, HM.out]; omega) (by have := hB.lt; show _ ≤ W.heap.size; omega)
      refine ⟨v', u', r_append (rho_env rfl) (rho_env rfl) hr, ?_, ⟨h2.os, h2.tape, h2.output, h2.size, h2.block⟩⟩
      rw [HS.out]; exact h1
    have hvlt : ∀ j, v.ownBlock = some j → w.heap.size + 3 ≤ j := fun j hj => (HW.out.lt j hj).1
    have hrow : ∀ j, j < w.heap.size + 3 → v.ownBlock ≠ some j := fun j hj e => by have := hvlt j e; omega
    refine IE_store rfl (fun u hu => ?_) fun v3 => ?_
    · obtain ⟨ho, hg⟩ := hu
      have hou := HO.out.grown hg (hrow _ (by omega))
      exact ⟨_, r_store1 (rho_base rfl rfl) (rho_env rfl) os29 (by rw [hou.cell]; rfl) (hou.frozen _) (by rcases ho.2 with ⟨rfl, _⟩ | ⟨_, _, _, rfl, _⟩ <;> rfl), fun _ => ⟨u, ho, hg, rfl⟩⟩
    refine IE_nil fun u hu => ?_
    rw [withEnv_norm (rfl : setsL _ 0 _ = [_, _, _, _, _, _, _, _, _, _, _, _, _, _, _, _, _, _, _, _, _, _, _, _, _, _, _])]
    obtain ⟨u1, ho, hg, rfl⟩ := hu
    have hou := HO.out.grown hg (hrow _ (by omega))
    have hnu := (hn1.grown hg (hrow _ (by omega))).setOther ⟨w.heap.size + 1, 0, none⟩ v2 (by simp)
    have hku := (hk1.grown hg (hrow _ (by omega))).setOther ⟨w.heap.size + 1, 0, none⟩ v2 (by simp)
    have hO1 := (Only.refl (w.heap.size + 1) u1).set (x := ⟨w.heap.size + 1, 0, none⟩) (.inl rfl) v2
    have how2 := ho.only hO1 (fun e => by have := (ho.lt _ e).1; omega)
    have hou2 : Blk (u1.setCell ⟨w.heap.size + 1, 0, none⟩ v2) (w.heap.size + 1) #[v2] 29 := hou.set 0 v2
    have hbu : Below w.heap.size w (u1.setCell ⟨w.heap.size + 1, 0, none⟩ v2) := (hbel.grown hg hwW (fun j e => by have := hvlt j e; omega)).setCell (by simp) _
    have hko : KeepsOthers W (u1.setCell ⟨w.heap.size + 1, 0, none⟩ v2) := (KeepsOthers.of_grownBy hg fun j o e hj => by
      rcases HW.out.2 with ⟨rfl, _⟩ | ⟨g, cap, cur, rfl, _, hg', _⟩
      · cases e
      · simp [Value.ownBlock] at e; subst e; rw [hg'] at hj; cases hj; rfl).trans (KeepsOthers.setCell _ _ _)
    have hlen := HL.out
    have HL2 := Lib.hid (strm_length key (k + 1))
    have hst : StI w n (.slice a key.length c) key (k + 1) (u1.setCell ⟨w.heap.size + 1, 0, none⟩ v2) := ⟨hnu, hku, ⟨v2, hou2, how2⟩, hbu⟩
    have HST := Lib.hid hst
    have HKO := Lib.hid hko
    obtain ⟨a2, c2, rfl, _, _⟩ := ho.byt.len
    rw [HL2.out] at *
    generalize u1.setCell ⟨w.heap.size + 1, 0, none⟩ (.slice a2 (16 * (k + 1)) c2) = U at *
    have hcn := hnu.cell 0
    have hco := hou2.cell 0
    simp only [List.getElem?_toArray, List.getElem?_cons_zero] at hcn hco
    clear hO1 hku hbu hko hou hst ho how2 hg hlen hnu hou2 hvlt hrow hB hn1 hk1 hbel hlo hlk hwW
    by_cases h16 : n ≤ 16 * (k + 1)
    · have h16' : (n : Int) ≤ (16 * (k + 1) : Nat) := by omega
      gi_wp2
      exact ⟨rfl, HKO.out, k + 1, h16, by omega, HST.out⟩
    · have h16' : ¬ (n : Int) ≤ (16 * (k + 1) : Nat) := by omega
      gi_wp2
      exact ⟨HKO.out, HST.out, by omega⟩
  · rintro D W hD ⟨k, h3, h4, hi⟩ hd
    rw [HB.out] at hD
    obtain ⟨hn1, hk1, ⟨v, ho1, how⟩, hbel⟩ := hi
    have HL := Lib.hid (strm_length key k)
    obtain ⟨va, vc, rfl, hvc, hvm⟩ := how.byt.len
    rw [HL.out] at hvc
    unfold maxLen at hvm
    have hc0 := hn1.cell 0
    have hc1 := ho1.cell 0
    have hnc : (n : Int) ≤ vc := by omega
    have hn0' : (0 : Int) ≤ n := by omega
    simp only [List.getElem?_toArray, List.getElem?_cons_zero] at hc0 hc1
    go_wp2_with fail
    refine (clone_any _ ((strm key k).take n) W (by simp; omega) (how.byt.take n (by rw [HL.out]; omega) (by rw [HL.out]; omega))).mono ?_
    rintro _ w2 ⟨v', rfl, ho', hb'⟩
    have hd' : w2.heap[D]? = some (Obj.deferred (some [])) := (hb'.block D (Array.getElem?_eq_some_iff.1 hd).1).trans hd
    have hsw := hbel.size
    go_wp2
    refine ⟨by simp, .inl ⟨_, _, rfl, run_takeDeferred hd', ?_⟩⟩
    refine ⟨_, results_tmp rfl _ _ _, v', rfl, ?_, (hbel.trans (hb'.mono hsw)).trans (belowK_b (w := w) (Nat.le_refl _) w2 D _ _ (by omega) hd' rfl rfl)⟩
    rw [streamB, show (n + 15) / 16 = k by omega]
    exact Own.putObj' (ho'.mono hsw) hd' rfl
end Go.Proofs.Ytbbpcgodjncflaa
