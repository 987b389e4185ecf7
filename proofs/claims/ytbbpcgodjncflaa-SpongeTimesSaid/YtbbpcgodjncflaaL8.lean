/-
  A part of the proofs of this seat: laws of the walk, or contracts of the functions that the statements reach. No conditions but those that each theorem names.
-/
import Derived.Test.YtbbpcgodjncflaaL7
namespace Go.Sp
open Go.RowKit
theorem strOfNums_bytes (l : List UInt8) : strOfNums (l.map Ub) = ⟨l.toArray⟩ := by
  unfold strOfNums
  congr 2
  rw [List.map_map]
  conv => rhs; rw [← List.map_id l]
  apply List.map_congr_left
  intro x _
  simp [Ub]
theorem Byt.str {P : Program} {w : World} {v : Value} {l : List UInt8} {src e dst : TypeId} (h : Byt w v l) (hs : P.underlying src = some (.slice e)) (he : P.underlying e = some (.int .u8)) (hd : P.underlying dst = some .string) :
    (convert src dst v).run P w = .ok (.string ⟨l.toArray⟩) w := by
  rcases h with ⟨rfl, rfl⟩ | ⟨g, off, cap, rfl, _, _, _, h4⟩
  · rw [run_convert_bytes_nil w src e hs he 0 0 dst hd]; rfl
  · rw [run_convert_bytes_arg w src e hs he g off l.length cap (l.map Ub) (by simp) (fun i hi => ?_) dst hd, strOfNums_bytes]
    rw [h4 i l[i] (by simp [hi])]
    simp [List.getD_eq_getElem?_getD, hi]
theorem Byt.nilOnly {w w' : World} {v : Value} (h : Byt w v []) (hs : w.heap.size ≤ w'.heap.size) : Byt w' v [] := by
  rcases h with h | ⟨g, off, cap, rfl, h1, h2, h3, _⟩
  · exact .inl h
  · exact .inr ⟨g, off, cap, rfl, h1, h2, Nat.lt_of_lt_of_le h3 hs, fun i b hi => by simp at hi⟩
theorem Byt.belowN {n : Nat} {w w' : World} {v : Value} {l : List UInt8} (h : Byt w v l) (e : Below n w w') (hn : ∀ k, v.ownBlock = some k → k < n) : Byt w' v l :=
  h.keep e.size fun k hk => e.block k (hn k hk)
theorem wpList_appw_byt {P : Program} {w : World} {ops : Array Oper} {rest : List Oper} {o : Oper} {a : Act} {Q : Exit → Act → World → Prop} {s x : Operand} {t e : TypeId} {base : Nat} {vs vx : Value} {xs l : List UInt8}
    (hgd : Region.wanted o (yielded ops a.tmps) = true) (ho : o.op = .call { callee := .builtin .append, args := #[s, x], argTypes := #[t, t] }) (hT : BytT P t e) (hown : Sp.Own e base w vs xs) (hx : Byt w vx l) (hs : a.eval s = vs) (hx' : a.eval x = vx)
    (hlen : xs.length + l.length ≤ 70368744177664) (hbase : base ≤ w.heap.size)
    (h : ∀ v' w', Sp.Own e base w' v' (xs ++ l) → w.grownBy w' vs.ownBlock → (v' = .slice none 0 0 ↔ vs = .slice none 0 0 ∧ l = []) → wpList P ops Q rest (a.put o.dst v') w') : wpList P ops Q (o :: rest) a w :=
  wpList_step fun K hK => by
    rw [if_pos hgd]
    obtain ⟨v', w', hr, h1, h2, h3⟩ := run_append_byt (P := P) w hT o.type base hown hx hlen hbase
    unfold Oper.wp execOp
    simp only [ho, resolve, invoke, builtin, Sem.run_bind, Sem.run_pure, Result.andThen_ok, List.map_toArray, List.map_cons, List.map_nil, hs, hx', hr]
    exact hK _ _ (h v' w' h1 h2 h3)
@[go_sem 9000] theorem binOp_add_Bc (t : TypeId) (x : UInt8) (n : Int) (h0 : 0 ≤ n) (h1 : n < 256) : binOp .add t (B x) (.int .u8 n) = pure (B (x + UInt8.ofNat n.toNat)) := by
  rw [B_ofInt n h0 h1, binOp_add_B]
end Go.Sp
namespace Go.Proofs.Ytbbpcgodjncflaa
open Go.RowKit Go.Sp
set_option maxRecDepth 100000 in
set_option maxHeartbeats 4000000 in
theorem own_main (kv av bv : Value) (key a b : List UInt8) (w : World) (hk : Byt w kv key) (ha : Byt w av a) (hb : Byt w bv b) (h0 : key.length ≤ 60) (h1 : a.length ≤ 100) (h2 : b.length ≤ 100) :
    Calls Try.prog 8 #[kv, av, bv] w fun e w' => e = .returned (.bool true) ∧ Below w.heap.size w w' := by
  have HK := Lib.hid hk
  have HA := Lib.hid ha
  have HB := Lib.hid hb
  obtain ⟨ka, kc, rfl, hkc, hkm⟩ := hk.len
  obtain ⟨aa, ac, rfl, hac, ham⟩ := ha.len
  obtain ⟨ba, bc, rfl, hbc, hbm⟩ := hb.len
  unfold maxLen at hkm ham hbm
  clear hk ha hb
  have h0' : ¬ ((60 : Int) < (key.length : Int)) := by omega
  have h1' : ¬ ((100 : Int) < (a.length : Int)) := by omega
  have h2' : ¬ ((100 : Int) < (b.length : Int)) := by omega
  go_enter Try.func8, Try.ntmps8
  go_wp2_with fail
  refine (known_any _).mono ?_
  rintro _ w1 ⟨rfl, hbel1⟩
  have hszA := hbel1.size
  go_wp2_with (at_builtin; refine stop_here ?_)
  refine Stop.go (wpList_append_byt rfl rfl byt29 (Own.lit 5 w1.heap.size w1 [] (Nat.le_refl _) (by simp)) ((HK.out.ext hbel1).ext ((Below.refl _ _).alloc (Nat.le_refl _) _)) rfl rfl (by simp; omega) (by simp) ?_)
  intro kv w2 hk2 hg2 _
  rw [List.nil_append] at hk2
  have hb2 : Below w1.heap.size w1 w2 := ((Below.refl _ _).alloc (Nat.le_refl _) _).trans (toBelow hg2 (by simp) (by simp [Value.ownBlock]))
  have hltk := hk2.lt
  have HLTk := Lib.hid hltk
  have hsz2 := hb2.size
  clear hg2 hltk
  have hbel2 := hbel1.trans (hb2.mono hbel1.size)
  clear hbel1 hb2
  obtain ⟨ka', kcc, rfl, _, hkm2⟩ := hk2.byt.len
  unfold maxLen at hkm2
  go_wp2_with (at_builtin; refine stop_here ?_)
  refine Stop.go (wpList_append_byt rfl rfl byt29 (Own.lit 5 w2.heap.size w2 [] (Nat.le_refl _) (by simp)) ((HA.out.ext hbel2).ext ((Below.refl _ _).alloc (Nat.le_refl _) _)) rfl rfl (by simp; omega) (by simp) ?_)
  intro xv w3 hx3 hg3 _
  rw [List.nil_append] at hx3
  have hb3 : Below w2.heap.size w2 w3 := ((Below.refl _ _).alloc (Nat.le_refl _) _).trans (toBelow hg3 (by simp) (by simp [Value.ownBlock]))
  have hltx := hx3.lt
  have HLTx := Lib.hid hltx
  have hsz3 := hb3.size
  clear hg3 hltx
  have hk3 := hk2.below hb3
  have hbel3 := hbel2.trans (hb3.mono hbel2.size)
  clear hk2 hbel2 hb3
  obtain ⟨xa, xcc, rfl, _, hxm⟩ := hx3.byt.len
  unfold maxLen at hxm
  go_wp2_with (at_builtin; refine stop_here ?_)
  refine Stop.go (wpList_append_byt rfl rfl byt29 (Own.lit 5 w3.heap.size w3 [] (Nat.le_refl _) (by simp)) ((HB.out.ext hbel3).ext ((Below.refl _ _).alloc (Nat.le_refl _) _)) rfl rfl (by simp; omega) (by simp) ?_)
  intro yv w4 hy4 hg4 _
  rw [List.nil_append] at hy4
  have hb4 : Below w3.heap.size w3 w4 := ((Below.refl _ _).alloc (Nat.le_refl _) _).trans (toBelow hg4 (by simp) (by simp [Value.ownBlock]))
  have hlty := hy4.lt
  have HLTy := Lib.hid hlty
  have hsz4 := hb4.size
  clear hg4 hlty
  have hk4 := hk3.below hb4
  have hx4 := hx3.below hb4
  have hbel4 := hbel3.trans (hb4.mono hbel3.size)
  clear hk3 hx3 hbel3 hb4
  obtain ⟨ya, ycc, rfl, _, hym⟩ := hy4.byt.len
  unfold maxLen at hym
  have hsz1 := hbel4.size
  go_wp2_with fail
  refine (new_any _ key _ hk4.byt (by omega)).mono ?_
  rintro _ w5 ⟨p, pwv, rfl, hpw, hb5, hpB5, hpY5, hpN⟩
  have hsz5 := hb5.size
  have hk5 := hk4.below hb5
  have hx5 := hx4.below hb5
  have hy5 := hy4.below hb5
  have hbel5 := hbel4.trans (hb5.mono hbel4.size)
  clear hk4 hx4 hy4 hbel4 hb5
  have hpL := hpB5.lt
  have hpYl := Byt.lt hpY5
  have HpYL := Lib.hid hpYl
  clear hpYl
  go_wp2_with fail
  refine (new_any _ key _ hk5.byt (by omega)).mono ?_
  rintro _ w6 ⟨q, qwv, rfl, hqw, hb6, hqB6, hqY6, hqN⟩
  have hsz6 := hb6.size
  have hk6 := hk5.below hb6
  have hx6 := hx5.below hb6
  have hy6 := hy5.below hb6
  have hpB6 := hpB5.ext hb6
  have hpY6 := hpY5.ext hb6
  have hbel6 := hbel5.trans (hb6.mono hbel5.size)
  clear hk5 hx5 hy5 hpB5 hpY5 hbel5 hb6
  have hqL := hqB6.lt
  have hqYl := Byt.lt hqY6
  have HqYL := Lib.hid hqYl
  clear hqYl
  go_wp2_with fail
  refine (write_any p _ _ _ _ a _ hpB6 hpY6 hx6.byt (by simp; omega)).mono ?_
  rintro _ w7 ⟨rfl, hO7, pwv7, hpB7, hpY7, hpN7, hpF7⟩
  have HpF7 := Lib.hid hpF7
  clear hpF7
  have hsz7 := hO7.size
  have hk7 := hk6.only hO7 (fun e => by have := HLTk.out _ e; omega)
  have hx7 := hx6.only hO7 (fun e => by have := HLTx.out _ e; omega)
  have hy7 := hy6.only hO7 (fun e => by have := HLTy.out _ e; omega)
  have hqB7 := hqB6.only hO7 (by omega)
  have hqY7 := Byt.nilOnly hqY6 hO7.size
  have hbel7 := hbel6.trans (hO7.below (by omega) hbel6.size)
  clear hpB6 hpY6 hk6 hx6 hy6 hqB6 hqY6 hbel6 hO7
  go_wp2_with fail
  refine (write_any q _ _ _ _ b _ hqB7 hqY7 hy7.byt (by simp; omega)).mono ?_
  rintro _ w8 ⟨rfl, hO8, qwv8, hqB8, hqY8, hqN8, hqF8⟩
  have HqF8 := Lib.hid hqF8
  clear hqF8
  have hsz8 := hO8.size
  have hk8 := hk7.only hO8 (fun e => by have := HLTk.out _ e; omega)
  have hx8 := hx7.only hO8 (fun e => by have := HLTx.out _ e; omega)
  have hy8 := hy7.only hO8 (fun e => by have := HLTy.out _ e; omega)
  have hpB8 := hpB7.only hO8 (by omega)
  have hpY8 := hpY7.only hO8 (fun e => by have := HpF7.out _ e; omega)
  have hbel8 := hbel7.trans (hO8.below (by omega) hbel7.size)
  clear hqB7 hqY7 hk7 hx7 hy7 hpB7 hpY7 hbel7 hO8
  obtain ⟨P1, hP1⟩ : ∃ A, A = absAll (keyS key) ([] ++ a) := ⟨_, rfl⟩
  obtain ⟨Q1, hQ1⟩ : ∃ A, A = absAll (keyS key) ([] ++ b) := ⟨_, rfl⟩
  rw [← hP1] at hpB8 hpY8
  rw [← hQ1] at hqB8 hqY8
  have HP1 := Lib.hid hP1
  have HQ1 := Lib.hid hQ1
  clear hP1 hQ1
  have hpYl8 := Byt.lt hpY8
  have HpYL8 := Lib.hid hpYl8
  clear hpYl8
  go_wp2
  go_loopw [12] (fun i wr => ∃ (m : Nat) (l' : List UInt8), m ≤ a.length ∧ i = .int .i64 m ∧ l'.length = a.length ∧ Sp.Own 5 w2.heap.size wr (.slice xa a.length xcc) l' ∧ Sp.Own 5 w1.heap.size wr (.slice ka' key.length kcc) key ∧ Sp.Own 5 w3.heap.size wr (.slice ya b.length ycc) b ∧ Blk wr p (P1.1.cells pwv7) 62 ∧ Byt wr pwv7 P1.2 ∧ Blk wr q (Q1.1.cells qwv8) 62 ∧ Byt wr qwv8 Q1.2 ∧ Below w.heap.size w wr) (fun i _ => (a.length - intOf i).toNat)
  case atStart => exact ⟨0, a, by omega, rfl, rfl, hx8, hk8, hy8, hpB8, hpY8, hqB8, hqY8, hbel8⟩
  case round =>
    obtain ⟨m, l', hm, rfl, hl', hx, hk, hy, hpB, hpY, hqB, hqY, hbel⟩ := hrel
    clear hx8 hk8 hy8 hpB8 hpY8 hqB8 hqY8 hbel8
    have HL' := Lib.hid hl'
    clear hl'
    by_cases hlt : m < a.length
    · have hml : m < l'.length := by rw [HL'.out]; exact hlt
      obtain ⟨g, c', he, hgb, hgl, _, _⟩ := Own.form hx (by omega)
      rw [HL'.out] at he
      simp only [Value.slice.injEq, true_and] at he
      obtain ⟨rfl, rfl⟩ := he
      have hcx := Own.cell hx m hml
      have hfx := Own.frozen hx m
      have hgh := HLTx.out g rfl
      have hlt' : (m : Int) < (a.length : Int) := by omega
      have hm0 : (0 : Int) ≤ m := by omega
      go_wp2
      have hO := (Only.refl g wr).set (x := ⟨g, m, none⟩) (.inl rfl) (B (l'[m] + UInt8.ofNat (Int.toNat 1)))
      go_roundw
      case rel => exact ⟨m + 1, l'.set m (l'[m] + UInt8.ofNat (Int.toNat 1)), by omega, by go_num, by rw [List.length_set, HL'.out], Own.set hx m _, hk.only hO (fun e => by have := HLTk.out _ e; omega), hy.only hO (fun e => by have := HLTy.out _ e; omega), hpB.only hO (by omega), hpY.only hO (fun e => by have := HpF7.out _ e; omega), hqB.only hO (by omega), hqY.only hO (fun e => by have := HqF8.out _ e; omega), hbel.setCell (p := ⟨g, m, none⟩) (by show _ ≤ g; omega) _⟩
      case measure => simp [intOf]; omega
    · have hge : ¬ ((m : Int) < (a.length : Int)) := by omega
      obtain rfl : m = a.length := by omega
      clear hge hlt HL'
      go_wp2
      go_loopw [13] (fun i wr2 => ∃ (m : Nat) (l2 : List UInt8), m ≤ key.length ∧ i = .int .i64 m ∧ l2.length = key.length ∧ Sp.Own 5 w1.heap.size wr2 (.slice ka' key.length kcc) l2 ∧ Sp.Own 5 w3.heap.size wr2 (.slice ya b.length ycc) b ∧ Blk wr2 p (P1.1.cells pwv7) 62 ∧ Byt wr2 pwv7 P1.2 ∧ Blk wr2 q (Q1.1.cells qwv8) 62 ∧ Byt wr2 qwv8 Q1.2 ∧ Below w.heap.size w wr2) (fun i _ => (key.length - intOf i).toNat)
      case atStart => exact ⟨0, key, by omega, rfl, rfl, hk, hy, hpB, hpY, hqB, hqY, hbel⟩
      case round =>
        clear hx hk hy hpB hpY hqB hqY hbel
        clear l'
        obtain ⟨m, l', hm, rfl, hl', hk, hy, hpB, hpY, hqB, hqY, hbel⟩ := hrel
        have HL' := Lib.hid hl'
        clear hl'
        by_cases hlt : m < key.length
        · have hml : m < l'.length := by rw [HL'.out]; exact hlt
          obtain ⟨g, c', he, hgb, hgl, _, _⟩ := Own.form hk (by omega)
          rw [HL'.out] at he
          simp only [Value.slice.injEq, true_and] at he
          obtain ⟨rfl, rfl⟩ := he
          have hcx := Own.cell hk m hml
          have hfx := Own.frozen hk m
          have hgh := HLTk.out g rfl
          have hlt' : (m : Int) < (key.length : Int) := by omega
          have hm0 : (0 : Int) ≤ m := by omega
          go_wp2
          have hO := (Only.refl g wr).set (x := ⟨g, m, none⟩) (.inl rfl) (B (l'[m] + UInt8.ofNat (Int.toNat 1)))
          go_roundw
          case rel => exact ⟨m + 1, l'.set m (l'[m] + UInt8.ofNat (Int.toNat 1)), by omega, by go_num, by rw [List.length_set, HL'.out], Own.set hk m _, hy.only hO (fun e => by have := HLTy.out _ e; omega), hpB.only hO (by omega), hpY.only hO (fun e => by have := HpF7.out _ e; omega), hqB.only hO (by omega), hqY.only hO (fun e => by have := HqF8.out _ e; omega), hbel.setCell (p := ⟨g, m, none⟩) (by show _ ≤ g; omega) _⟩
          case measure => simp [intOf]; omega
        · have hge : ¬ ((m : Int) < (key.length : Int)) := by omega
          obtain rfl : m = key.length := by omega
          clear hge hlt HL' hk
          go_wp2_with fail
          refine (write_any p _ _ _ _ b _ hpB hpY (HB.out.ext hbel) (by have := absAll_waits (keyS key) ([] ++ a); rw [← HP1.out] at this; omega)).mono ?_
          rintro _ v9 ⟨rfl, hO9, pwv9, hpB9, hpY9, hpN9, hpF9⟩
          have hy9 := hy.only hO9 (fun e => by have := HLTy.out _ e; omega)
          have hqB9 := hqB.only hO9 (by omega)
          have hqY9 := hqY.only hO9 (fun e => by have := HqF8.out _ e; omega)
          have hbel9 := hbel.trans (hO9.below (by omega) hbel.size)
          clear hy hpB hpY hqB hqY hbel hO9 hpF9 hpN9
          have hAB : absAll P1.1 (P1.2 ++ b) = absAll (keyS key) (a ++ b) := by rw [HP1.out, List.nil_append, ← absAll_append]
          rw [hAB] at hpB9 hpY9
          have hQ : Q1 = absAll (keyS key) b := by rw [HQ1.out, List.nil_append]
          have hw1 : (absAll (keyS key) (a ++ b)).2.length < 16 := by rw [absAll_waits]; omega
          have hw2 : Q1.2.length < 16 := by rw [hQ, absAll_waits]; omega
          obtain ⟨L1, hL1⟩ : ∃ L, L = rawB key (a ++ b) := ⟨_, rfl⟩
          obtain ⟨L2, hL2⟩ : ∃ L, L = rawB key b := ⟨_, rfl⟩
          have hs1 : sumB (absAll (keyS key) (a ++ b)).1 (absAll (keyS key) (a ++ b)).2 = L1 := by
            have := sumB_abs (keyS key) (a ++ b) []
            rw [List.append_nil, List.append_nil] at this
            rw [hL1, rawB_eq]; exact this
          have hs2 : sumB Q1.1 Q1.2 = L2 := by
            have := sumB_abs (keyS key) b []
            rw [List.append_nil, List.append_nil] at this
            rw [hL2, rawB_eq, hQ]; exact this
          have h161 : L1.length = 16 := by rw [hL1, rawB_length]
          have h162 : L2.length = 16 := by rw [hL2, rawB_length]
          obtain ⟨A1, hA1⟩ : ∃ O, O = (L1.map B).toArray := ⟨_, rfl⟩
          obtain ⟨A2, hA2⟩ : ∃ O, O = (L2.map B).toArray := ⟨_, rfl⟩
          obtain ⟨S, hS⟩ : ∃ S : ByteArray, S = ⟨b.toArray⟩ := ⟨_, rfl⟩
          have heq1 : ∀ w, (binOp .eql 35 (.agg A1) (.agg A1)).run Try.prog w = .ok (.bool true) w := by rw [hA1]; exact eq35 _ h161
          have heq2 : ∀ w, (binOp .eql 35 (.agg A2) (.agg A2)).run Try.prog w = .ok (.bool true) w := by rw [hA2]; exact eq35 _ h162
          have hgd : ∀ x y A A' w, (eqGuard .eql 35 x y (.agg A) (.agg A')).run Try.prog w = .ok () w := fun x y A A' w => gd35 _ _ _ _ _ _
          have hst1 := hy9.byt.str (P := Try.prog) Try.underlying29 Try.underlying5 Try.underlying9
          have hst2 := (HB.out.ext hbel9).str (P := Try.prog) Try.underlying29 Try.underlying5 Try.underlying9
          rw [← hS] at hst1 hst2
          have H1 : Hid (((sumB (absAll (keyS key) (a ++ b)).1 (absAll (keyS key) (a ++ b)).2).map B).toArray = A1) := Lib.hid (by rw [hs1, hA1])
          have H2 : Hid (((sumB Q1.1 Q1.2).map B).toArray = A2) := Lib.hid (by rw [hs2, hA2])
          have R1 : Hid (((rawB key (a ++ b)).map B).toArray = A1) := Lib.hid (by rw [← hL1, hA1])
          have R2 : Hid (((rawB key b).map B).toArray = A2) := Lib.hid (by rw [← hL2, hA2])
          have HW1 := Lib.hid hw1
          have HW2 := Lib.hid hw2
          clear hL1 hL2 hs1 hs2 h161 h162 hA1 hA2 hS hw1 hw2 hQ hAB
          go_wp2_with fail
          refine (sum_any p _ _ _ _ hpB9 hpY9 HW1.out).mono ?_
          rintro _ v10 ⟨rfl, hb10⟩
          rw [H1.out]
          have hqB10 := hqB9.ext hb10
          have hqY10 := hqY9.ext hb10
          have hbel10 := hbel9.trans (hb10.mono hbel9.size)
          clear hpB9 hpY9 hqB9 hqY9 hbel9 hb10 hy9 hst1 hst2
          go_wp2_with (at_builtin; refine stop_here ?_)
          refine Stop.go (wpList_appw_byt rfl rfl byt29 (Own.lit 5 v10.heap.size v10 [] (Nat.le_refl _) (by simp)) ((HA.out.ext hbel10).ext ((Below.refl _ _).alloc (Nat.le_refl _) _)) rfl rfl (by simp; omega) (by simp) ?_)
          intro z1 v11 hz1 hg11 _
          rw [List.nil_append] at hz1
          have hb11 : Below v10.heap.size v10 v11 := ((Below.refl _ _).alloc (Nat.le_refl _) _).trans (toBelow hg11 (by simp) (by simp [Value.ownBlock]))
          have hqB11 := hqB10.ext hb11
          have hqY11 := hqY10.ext hb11
          have hbel11 := hbel10.trans (hb11.mono hbel10.size)
          have hszB := hb11.size
          have hqBl := hqB10.lt
          have hqYl := Byt.lt hqY10
          have hszC := hbel10.size
          clear hqB10 hqY10 hbel10 hb11 hg11
          obtain ⟨z1a, z1c, rfl, _, _⟩ := hz1.byt.len
          go_wp2_with (at_builtin; refine stop_here ?_)
          refine Stop.go (wpList_appw_byt rfl rfl byt29 hz1 (HB.out.ext hbel11) rfl rfl (by omega) hszB ?_)
          intro z2 v12 hz2 hg12 _
          have hb12 : Below v10.heap.size v11 v12 := toBelow hg12 hszB (fun k hk => (hz1.lt k hk).1)
          have hqB12 := hqB11.below hb12 hqBl
          have hqY12 := Byt.belowN hqY11 hb12 hqYl
          have hbel12 := hbel11.trans (hb12.mono hszC)
          clear hqB11 hqY11 hbel11 hb12 hg12 hqYl hqBl
          obtain ⟨z2a, z2c, rfl, _, _⟩ := hz2.byt.len
          have hz3 := hz2.byt
          rw [List.length_append] at hz3
          have HZ2 := Lib.hid hz3
          clear hz2 hz1 hz3
          go_wp2_with fail
          refine (raw_any _ _ key (a ++ b) _ (HK.out.ext hbel12) HZ2.out (by omega) (by simp; omega)).mono ?_
          rintro _ v13 ⟨rfl, hb13⟩
          rw [R1.out]
          have hqB13 := hqB12.ext hb13
          have hqY13 := hqY12.ext hb13
          have hbel13 := hbel12.trans (hb13.mono hbel12.size)
          clear hqB12 hqY12 hbel12 hb13
          go_wp2_with fail
          refine (sum_any q _ _ _ _ hqB13 hqY13 HW2.out).mono ?_
          rintro _ v14 ⟨rfl, hb14⟩
          rw [H2.out]
          have hbel14 := hbel13.trans (hb14.mono hbel13.size)
          clear hqB13 hqY13 hbel13 hb14
          go_wp2_with fail
          refine (raw_any _ _ key b _ (HK.out.ext hbel14) (HB.out.ext hbel14) (by omega) (by omega)).mono ?_
          rintro _ v15 ⟨rfl, hb15⟩
          rw [R2.out]
          have hbel15 := hbel14.trans (hb15.mono hbel14.size)
          clear hbel14 hb15
          go_wp2
          go_ret
          exact ⟨rfl, hbel15⟩
set_option maxRecDepth 100000 in
set_option maxHeartbeats 2000000 in
theorem own_any (kv : Value) (key : List UInt8) (av : Value) (a : List UInt8) (bv : Value) (b : List UInt8) (w : World) (hk : Byt w kv key) (ha : Byt w av a) (hb : Byt w bv b) :
    Calls Try.prog 8 #[kv, av, bv] w fun e w' => e = .returned (.bool true) ∧ Below w.heap.size w w' := by
  by_cases h : key.length ≤ 60 ∧ a.length ≤ 100 ∧ b.length ≤ 100
  · exact own_main kv av bv key a b w hk ha hb h.1 h.2.1 h.2.2
  · obtain ⟨ka, kc, rfl, _, hkm⟩ := hk.len
    obtain ⟨aa, ac, rfl, _, ham⟩ := ha.len
    obtain ⟨ba, bc, rfl, _, hbm⟩ := hb.len
    unfold maxLen at hkm ham hbm
    clear hk ha hb
    have hh : ((60 : Int) < (key.length : Int)) ∨ (¬ ((60 : Int) < (key.length : Int)) ∧ ((100 : Int) < (a.length : Int))) ∨ (¬ ((60 : Int) < (key.length : Int)) ∧ ¬ ((100 : Int) < (a.length : Int)) ∧ ((100 : Int) < (b.length : Int))) := by omega
    clear h
    rcases hh with h0 | ⟨h0, h1⟩ | ⟨h0, h1, h2⟩
    all_goals
      go_enter Try.func8, Try.ntmps8
      go_wp2_with fail
      refine (known_any _).mono ?_
      rintro _ w1 ⟨rfl, hb1⟩
      go_wp2
      go_ret
      exact ⟨rfl, hb1⟩
end Go.Proofs.Ytbbpcgodjncflaa
