/-
  A part of the proofs of this seat: laws of the walk, or contracts of the functions that the statements reach. No conditions but those that each theorem names.
-/
import Derived.Test.YthpjihiikkhcjaaG20
import Derived.Test.YthpjihiikkhcjaaS7
namespace Go.Sp
open Go.RowKit
theorem r_addB {P : Program} {w : World} {ρ : Operand → Value} {d : Option Tmp} {ty t t' : TypeId} {pos : String} {aft : Array Edge} {g : Option (Nat × Bool)} {x y : Operand} {a b : UInt8} (hx : ρ x = B a) (hy : ρ y = B b) :
    (execOp ρ ⟨d, .binOp .add t x y t', ty, pos, aft, g⟩).run P w = .ok (.value (B (a + b))) w :=
  r_bin hx hy rfl (by
    unfold B Ub
    simp [binOp, Op.intArith, IntKind.wrap_u8, UInt8.toNat_add])
theorem Own.extM {bt : TypeId} {n m : Nat} {w w' : World} {v : Value} {l : List UInt8} (h : Own 5 n w v l) (hne : (5 : TypeId) ≠ bt) (e : ExtM bt m w w') : Own 5 n w' v l := by
  refine ⟨h.1, ?_⟩
  rcases h.2 with h0 | ⟨g, cap, cur, rfl, hb, hg, hc, hcm, hcs, ht⟩
  · exact .inl h0
  · obtain ⟨f', h', e'⟩ := e.keep g cur 5 (0, 0) hg
    rw [e' hne] at h'
    exact .inr ⟨g, cap, cur, rfl, hb, h', hc, hcm, hcs, ht⟩
theorem readM_form (key b : List UInt8) : ∃ nm i c e r ok, readM key b = (tokV nm i c e r, ok) := by
  unfold readM
  repeat (first | exact ⟨[], 0, 0, 0, 0, _, rfl⟩ | exact ⟨_, _, _, _, _, _, rfl⟩ | split)
/-- What is told in the region that lays the rows. -/
def VR (n : Nat) (l : List UInt8) (z c r : Value) (y : Value) (j : Nat) (v : Value) (u : World) : Prop :=
  (j = 9 → ∃ g, v = .slice (some ⟨g, 0, none⟩) 0 0 ∧ n ≤ g ∧ Own 5 n u v []) ∧
  (j = 11 → ∃ g cap, v = .slice (some ⟨g, 0, none⟩) l.length cap ∧ n ≤ g ∧ Own 5 n u v l) ∧
  (j = 12 → ∃ g, v = .slice (some ⟨g, 0, none⟩) 1 1 ∧ Blk u g #[B 0] 5) ∧
  (j = 13 → Ends u v l) ∧
  ((j = 14 ∨ j = 15) → ∃ g, v = .slice (some ⟨g, 0, none⟩) 5 5 ∧ n ≤ g ∧ Blk u g #[z, c, r, y, .slice none 0 0] 23)
theorem VR.mono {n : Nat} {l : List UInt8} {z c r : Value} (hl : 5 ≤ l.length) (y : Value) (j : Nat) (v : Value) (u u' : World) (h : RW n l.length u u') (k : VR n l z c r y j v u) : VR n l z c r y j v u' := by
  obtain ⟨k1, k2, k3, k4, k5⟩ := k
  refine ⟨fun hj => ?_, fun hj => ?_, fun hj => ?_, fun hj => ?_, fun hj => ?_⟩
  · obtain ⟨g, h1, h2, h3⟩ := k1 hj
    exact ⟨g, h1, h2, h.own h3 (by simp)⟩
  · obtain ⟨g, cap, h1, h2, h3⟩ := k2 hj
    exact ⟨g, cap, h1, h2, h.own h3 (Nat.le_refl _)⟩
  · obtain ⟨g, h1, h2⟩ := k3 hj
    exact ⟨g, h1, h.short h2 (by simp; omega)⟩
  · exact h.ends (k4 hj) rfl
  · obtain ⟨g, h1, h2, h3⟩ := k5 hj
    exact ⟨g, h1, h2, h.short h3 (by simp; omega)⟩
theorem VR.dep {n : Nat} {l : List UInt8} {z c r : Value} (y y' : Value) (j : Nat) (v : Value) (u : World) (hd : (j == 14 || j == 15) = false) (k : VR n l z c r y j v u) : VR n l z c r y' j v u := by
  obtain ⟨k1, k2, k3, k4, k5⟩ := k
  refine ⟨k1, k2, k3, k4, fun hj => ?_⟩
  rcases hj with rfl | rfl <;> simp at hd
end Go.Sp
namespace Go.Proofs.Ythpjihiikkhcjaa
open Go.RowKit Go.Sp
theorem pf18_ : plainFn Try.prog 18 = true := by kernel_rfl
set_option maxRecDepth 100000 in
set_option maxHeartbeats 16000000 in
theorem reads_any (kv : Value) (key : List UInt8) (ov : Value) (other : List UInt8) (n : Int) (s : ByteArray) (av : Value) (la : List Int) (bv : Value) (lb : List UInt8) (cut : Int) (rv : Value) (lr : List UInt8) (w : World)
    (hk : Byt w kv key) (ho : Byt w ov other) (hn : -9223372036854775808 ≤ n ∧ n ≤ 9223372036854775807) (_hs : s.size ≤ maxLen) (ha : Nums w av la) (hb : Byt w bv lb) (hc : -9223372036854775808 ≤ cut ∧ cut ≤ 9223372036854775807) (hr : Byt w rv lr) :
    Calls Try.prog 5 #[kv, ov, .int .i64 n, .string s, av, bv, .int .i64 cut, rv] w fun e w' => e = .returned (.bool true) ∧ Below w.heap.size w w' := by
  obtain ⟨ls, rfl⟩ : ∃ l : List UInt8, s = ⟨l.toArray⟩ := ⟨s.data.toList, rfl⟩
  have hsz : (⟨ls.toArray⟩ : ByteArray).size = ls.length := rfl
  have hla : ∃ a c, av = .slice a la.length c ∧ la.length ≤ c ∧ c ≤ maxLen := by
    rcases ha with ⟨rfl, rfl⟩ | ⟨g, off, cap, rfl, h1, h2, _⟩
    · exact ⟨none, 0, rfl, Nat.le_refl _, by simp [maxLen]⟩
    · exact ⟨_, _, rfl, h1, h2⟩
  have HK := Lib.hid hk
  have HO := Lib.hid ho
  have HA := Lib.hid ha
  have HBY := Lib.hid hb
  have HRW := Lib.hid hr
  obtain ⟨ka, kc, rfl, hkc, hkm⟩ := hk.len
  obtain ⟨oa, oc, rfl, hoc, hom⟩ := ho.len
  obtain ⟨aa, ac, rfl, hac, ham⟩ := hla
  obtain ⟨ba, bc, rfl, hbc, hbm⟩ := hb.len
  obtain ⟨ra, rc, rfl, hrc, hrm⟩ := hr.len
  unfold maxLen at hkm hom ham hbm hrm
  clear hk ho ha hb hr
  by_cases hk6 : (60 : Int) < (key.length : Int)
  · go_enter Try.func5, Try.ntmps5
    go_wp2_with fail
    refine (known_any _).mono ?_
    rintro _ w1 ⟨rfl, hbw1⟩
    go_wp2
    go_ret
    exact ⟨rfl, hbw1⟩
  by_cases ho6 : (60 : Int) < (other.length : Int)
  · go_enter Try.func5, Try.ntmps5
    go_wp2_with fail
    refine (known_any _).mono ?_
    rintro _ w1 ⟨rfl, hbw1⟩
    go_wp2
    go_ret
    exact ⟨rfl, hbw1⟩
  by_cases hs4 : (40 : Int) < (ls.length : Int)
  · go_enter Try.func5, Try.ntmps5
    go_wp2_with fail
    refine (known_any _).mono ?_
    rintro _ w1 ⟨rfl, hbw1⟩
    go_wp2
    go_ret
    exact ⟨rfl, hbw1⟩
  by_cases hr5 : (150 : Int) < (lr.length : Int)
  · go_enter Try.func5, Try.ntmps5
    go_wp2_with fail
    refine (known_any _).mono ?_
    rintro _ w1 ⟨rfl, hbw1⟩
    go_wp2
    go_ret
    exact ⟨rfl, hbw1⟩
  go_enter Try.func5, Try.ntmps5
  try simp only [List.append_eq, List.cons_append, List.nil_append]
  go_wp2_with fail
  refine (known_any _).mono ?_
  rintro _ w1 ⟨rfl, hbw⟩
  go_wp2_with fail
  refine (token_any n ls _ hn (by omega)).mono ?_
  rintro _ w2 ⟨rfl, hb2⟩
  replace hbw := hbw.trans (hb2.mono hbw.size)
  clear hb2 hsz
  have hnl := nameB_len ls
  go_wp2_with fail
  refine (rissue_any _ key (nameB ls) (tkI n) (tkC n) (tkE n) (tkR n) _ (HK.out.ext hbw) (by omega) (by omega)).mono ?_
  rintro _ w3 ⟨iv, rfl, hI, hb3⟩
  replace hbw := hbw.trans (hb3.mono hbw.size)
  clear hb3
  have hL : 50 ≤ (issueB key (nameB ls) (tkI n) (tkC n) (tkE n) (tkR n)).length ∧ (issueB key (nameB ls) (tkI n) (tkC n) (tkE n) (tkR n)).length ≤ 70 := by
    unfold issueB
    rw [List.length_append, macB_length, flat_cat]
    omega
  generalize issueB key (nameB ls) (tkI n) (tkC n) (tkE n) (tkR n) = D at *
  generalize nameB ls = nm at *
  generalize tokV nm (tkI n) (tkC n) (tkE n) (tkR n) = tv at *
  clear hnl
  obtain ⟨ia, ic, rfl, hic, him⟩ := hI.len
  unfold maxLen at him
  go_wp2_with (at_builtin; refine stop_here ?_)
  have hO0 : Sp.Own 5 w3.heap.size (w3.alloc (.cells #[] 5)) (.slice (some ⟨w3.heap.size, 0, none⟩) 0 0) [] := Sp.Own.lit 5 w3.heap.size w3 [] (Nat.le_refl _) (by simp)
  have hb4 : Below w3.heap.size w3 (w3.alloc (.cells #[] 5)) := (Below.refl _ _).alloc (Nat.le_refl _) _
  refine Stop.go (wpList_append_byt rfl rfl byt29 hO0 (hI.ext hb4) rfl rfl (by simp; omega) hb4.size ?_)
  intro zv w5 hO5 hg5 _
  have hb5 : Below w3.heap.size w3 w5 := hb4.trans (toBelow hg5 hb4.size (fun k hk => (hO0.lt k hk).1))
  clear hO0 hb4 hg5
  rw [List.nil_append] at hO5
  obtain ⟨gz, cz, rfl, hgz, hcz⟩ : ∃ gz cz, zv = .slice (some ⟨gz, 0, none⟩) D.length cz ∧ w3.heap.size ≤ gz ∧ D.length ≤ cz := by
    rcases hO5.2 with ⟨_, h0⟩ | ⟨g, cap, cur, h0, hbg, _, hcc, _⟩
    · omega
    · exact ⟨g, cap, h0, hbg, hcc⟩
  have hczm : cz ≤ 9223372036854775807 := by
    obtain ⟨_, _, h1, _, h2⟩ := hO5.byt.len
    simp only [Value.slice.injEq] at h1
    unfold maxLen at h2
    omega
  have HI := Lib.hid hI
  have HBW := Lib.hid hbw
  clear hI hbw
  go_wp2_with fail
  go_loopw [19] (fun i wr => ∃ (k : Nat) (zs : List UInt8), k ≤ 3 ∧ i = .int .i64 k ∧ zs.length = D.length ∧ Sp.Own 5 w3.heap.size wr (.slice (some ⟨gz, 0, none⟩) D.length cz) zs ∧ Below w3.heap.size w3 wr) (fun i _ => (4 - intOf i).toNat)
  case atStart => exact ⟨0, D, by omega, rfl, rfl, hO5, hb5⟩
  case round =>
    clear hO5 hb5
    obtain ⟨k, zs, hk3, rfl, hzl, hO, hbr⟩ := hrel
    have HZL := Lib.hid hzl
    clear hzl
    have hbw := HBW.out.trans (hbr.mono HBW.out.size)
    by_cases hka : k < la.length
    · by_cases hkb : k < lb.length
      · by_cases hk3' : k < 3
        · have hka' : (k : Int) < (la.length : Int) := by omega
          have hkb' : (k : Int) < (lb.length : Int) := by omega
          have hk3'' : (k : Int) < 3 := by omega
          obtain ⟨g, off, rfl, hcn, hnb⟩ : ∃ g off, aa = some ⟨g, off, none⟩ ∧ wr.cell? ⟨g, off + k, none⟩ = some (.int .i64 la[k]) ∧ -9223372036854775808 ≤ la[k] ∧ la[k] ≤ 9223372036854775807 := by
            rcases HA.out with ⟨h1, h2⟩ | ⟨g, off, cap, h1, _, _, hg, h2⟩
            · rw [h2] at hka; simp at hka
            · simp only [Value.slice.injEq] at h1
              exact ⟨g, off, h1.1, (World.cell?_of_block (a := ⟨g, off + k, none⟩) (hbw.block g hg)).trans (h2 k la[k] (by simp [hka])).1, (h2 k la[k] (by simp [hka])).2⟩
          obtain ⟨g', off', rfl, hcb⟩ : ∃ g' off', ba = some ⟨g', off', none⟩ ∧ wr.cell? ⟨g', off' + k, none⟩ = some (B lb[k]) := by
            rcases HBY.out.ext hbw with ⟨h1, h2⟩ | ⟨g', off', cap, h1, _, _, hg, h2⟩
            · rw [h2] at hkb; simp at hkb
            · simp only [Value.slice.injEq] at h1
              exact ⟨g', off', h1.1, h2 k lb[k] (by simp [hkb])⟩
          generalize la[k] = m at *
          generalize lb[k] = yb at *
          have hq0 := Int.emod_nonneg m (b := (D.length : Int)) (by omega)
          have hq1 := Int.emod_lt_of_pos m (b := (D.length : Int)) (by omega)
          obtain ⟨q, hq⟩ : ∃ q : Nat, (q : Int) = m % (D.length : Int) := ⟨(m % (D.length : Int)).toNat, by omega⟩
          rw [← hq] at hq0 hq1
          have HQ := Lib.hid hq
          clear hq
          have hqz : q < zs.length := by rw [HZL.out]; omega
          obtain ⟨yz, hyz⟩ : ∃ y, zs[q]? = some y := ⟨zs[q], by simp [hqz]⟩
          have hO' := hO
          rw [← HZL.out] at hO'
          obtain ⟨hcz1, hcz2⟩ := hO'.cellAt q yz hyz
          have HYZ := Lib.hid hyz
          clear hyz hO'
          go_wp2_with fail
          refine wp_region_VT (bt := 0) 16 (fun _ => true) (fun ix => (lookL [(.slice (some ⟨gz, 0, none⟩) D.length cz), (.slice (some ⟨g, off, none⟩) la.length ac), .int .i64 k, .pointer (some ⟨g, off + k, none⟩), .int .i64 m, (.slice (some ⟨gz, 0, none⟩) D.length cz), .int .i64 D.length, .int .i64 q, .pointer (some ⟨gz, q, none⟩), B yz, (.slice (some ⟨g', off', none⟩) lb.length bc), .int .i64 k, .pointer (some ⟨g', off' + k, none⟩), B yb, B (yz + yb), .pointer (some ⟨gz, q, none⟩), undef] ix).getD undef) (fun _ _ _ => True) (by kernel_rfl) (by kernel_rfl) (by kernel_rfl) (by kernel_rfl) (fun _ _ _ _ _ _ => trivial) (fun _ _ _ _ => trivial) fun x => ?_
          simp only [List.take_succ_cons, List.take_zero, List.drop_succ_cons, List.drop_zero]
          refine VE_ex (v := (.slice (some ⟨gz, 0, none⟩) D.length cz)) rfl rfl rfl (fun u hu hf => r_move (rho_base rfl rfl)) ?_
          refine VE_ex (v := (.slice (some ⟨g, off, none⟩) la.length ac)) rfl rfl rfl (fun u hu hf => r_move (rho_base rfl rfl)) ?_
          refine VE_ex (v := .int .i64 k) rfl rfl rfl (fun u hu hf => r_move (rho_base rfl rfl)) ?_
          refine VE_ex (v := .pointer (some ⟨g, off + k, none⟩)) rfl rfl rfl (fun u hu hf => r_indexSl (rho_env rfl) (rho_env rfl) sl41 ⟨by omega, by omega, by omega⟩) ?_
          refine VE_ex (v := .int .i64 m) rfl rfl rfl (fun u hu hf => r_load (rho_env rfl) on3 (hu.cell hcn)) ?_
          refine VE_ex (v := (.slice (some ⟨gz, 0, none⟩) D.length cz)) rfl rfl rfl (fun u hu hf => r_move (rho_base rfl rfl)) ?_
          refine VE_ex (v := .int .i64 D.length) rfl rfl rfl (fun u hu hf => r_lenSl (rho_env rfl) Try.underlying23) ?_
          refine VE_call (v := .int .i64 q) (f := 18) (args := #[.int .i64 m, .int .i64 D.length]) rfl rfl rfl (fun u => r_call pf18_ (map2 (rho_env rfl) (rho_env rfl)) rfl) (fun u hu hf => ?_) ?_
          · refine (within_any m D.length hnb (by omega) (by omega) u).mono ?_
            rintro _ u' ⟨rfl, rfl⟩
            exact ⟨by rw [HQ.out], ExtM.refl _ _ _⟩
          refine VE_ex (v := .pointer (some ⟨gz, q, none⟩)) rfl rfl rfl (fun u hu hf => r_indexSl (rho_env rfl) (rho_env rfl) sl29 ⟨by omega, by omega, (by omega : q = 0 + (q : Int).toNat)⟩) ?_
          refine VE_ex (v := B yz) rfl rfl rfl (fun u hu hf => r_load (rho_env rfl) on5 (hu.cell hcz1)) ?_
          refine VE_ex (v := (.slice (some ⟨g', off', none⟩) lb.length bc)) rfl rfl rfl (fun u hu hf => r_move (rho_base rfl rfl)) ?_
          refine VE_ex (v := .int .i64 k) rfl rfl rfl (fun u hu hf => r_move (rho_base rfl rfl)) ?_
          refine VE_ex (v := .pointer (some ⟨g', off' + k, none⟩)) rfl rfl rfl (fun u hu hf => r_indexSl (rho_env rfl) (rho_env rfl) sl29 ⟨by omega, by omega, by omega⟩) ?_
          refine VE_ex (v := B yb) rfl rfl rfl (fun u hu hf => r_load (rho_env rfl) on5 (hu.cell hcb)) ?_
          refine VE_ex (v := B (yz + yb)) rfl rfl rfl (fun u hu hf => r_addB (rho_env rfl) (rho_env rfl)) ?_
          refine VE_ex (v := .pointer (some ⟨gz, q, none⟩)) rfl rfl rfl (fun u hu hf => r_indexSl (rho_env rfl) (rho_env rfl) sl29 ⟨by omega, by omega, (by omega : q = 0 + (q : Int).toNat)⟩) ?_
          refine VE_nil fun w6 hu hf => ?_
          refine wpList_norm (rfl : setsL _ 0 _ = [_, _, _, _, _, _, _, _, _, _, _, _, _, _, _, _, _, _, _, _, _, _, _, _, _, _, _, _, _, _, _, _, _, _, _, _, _, _, _, _, _, _, _, _, _, _, _, _, _, _, _, _, _, _, _, _, _, _, _, _, _, _, _, _, _, _, _, _, _, _, _, _, _, _, _, _, _, _, _, _, _, _, _, _, _, _, _, _, _, _, _, _, _, _, _, _, _, _, _, _, _, _, _, _, _, _, _, _, _, _, _, _, _, _, _, _, _, _, _, _, _, _, _, _, _, _, _, _, _, _, _, _, _, _, _, _, _, _, _, _, _, _, _, _, _, _, _, _, _, _, _, _, _, _, _, _, _, _, _, _, _, _, _, _, _]) ?_
          have hO6 := hO.extM (by decide) hu
          have hb6 := hbr.trans (hu.below.mono hbr.size)
          rw [← HZL.out] at hO6
          obtain ⟨c6, f6⟩ := hO6.cellAt q yz HYZ.out
          have hO7 := hO6.set q (yz + yb) hqz
          rw [HZL.out] at hO7
          have hb7 := hb6.setCell (p := ⟨gz, q, none⟩) hgz (Sp.B (yz + yb))
          have HO7 := Lib.hid hO7
          have HB7 := Lib.hid hb7
          clear hf hu hO6 hO7 hb6 hb7 hO hbr hbw hcz1 hcz2 hcn hcb
          go_wp2
          go_roundw
          case rel => exact ⟨k + 1, zs.set q (yz + yb), by omega, by go_num, by rw [List.length_set, HZL.out], HO7.out, HB7.out⟩
          case measure => simp [intOf]; omega
        · have hka' : (k : Int) < (la.length : Int) := by omega
          have hkb' : (k : Int) < (lb.length : Int) := by omega
          have hk3'' : ¬ (k : Int) < 3 := by omega
          generalize hw8 : wr = w8 at *
          have hI8 := HI.out.ext hbr
          have hz8 : Byt w8 (.slice (some ⟨gz, 0, none⟩) D.length cz) zs := by
            have := hO
            rw [← HZL.out] at this
            have := this.byt
            rwa [HZL.out] at this
          have hq0 := Int.emod_nonneg cut (b := (D.length : Int) + 1) (by omega)
          have hq1 := Int.emod_lt_of_pos cut (b := (D.length : Int) + 1) (by omega)
          obtain ⟨Q, hQ⟩ : ∃ Q : Nat, (Q : Int) = cut % ((D.length : Int) + 1) := ⟨(cut % ((D.length : Int) + 1)).toNat, by omega⟩
          have hQ1 : Q ≤ D.length := by omega
          have HQ := Lib.hid hQ
          clear hQ hq0 hq1 hw8 hO
          go_wp2_with fail
          refine wp_region_GE 13 (fun j => j == 14 || j == 15) (fun j => !(j == 9 || j == 11 || j == 12 || j == 13 || j == 14 || j == 15)) (fun ix => (lookL [(.slice (some ⟨gz, 0, none⟩) D.length cz), (.slice ia D.length ic), .int .i64 cut, (.slice ia D.length ic), .int .i64 D.length, .int .i64 ((D.length : Int) + 1), .int .i64 Q, (cutV ia ic 0 Q), (.slice ra lr.length rc), undef, (.slice ia D.length ic), undef, undef, undef, undef, undef] ix).getD undef) (RW w8.heap.size D.length) (VR w8.heap.size D (.slice (some ⟨gz, 0, none⟩) D.length cz) (cutV ia ic 0 Q) (.slice ra lr.length rc)) (by kernel_rfl) (by kernel_rfl) (by kernel_rfl) (by kernel_rfl) RW.refl (fun _ _ _ => RW.trans) (RW.drew _) (VR.mono (by omega)) VR.dep fun x => ?_
          refine GE_ex (v := (.slice (some ⟨gz, 0, none⟩) D.length cz)) RW.refl rfl rfl rfl (fun u hu hf => r_move (rho_base rfl rfl)) ?_
          refine GE_ex (v := (.slice ia D.length ic)) RW.refl rfl rfl rfl (fun u hu hf => r_move (rho_base rfl rfl)) ?_
          refine GE_ex (v := .int .i64 cut) RW.refl rfl rfl rfl (fun u hu hf => r_move (rho_base rfl rfl)) ?_
          refine GE_ex (v := (.slice ia D.length ic)) RW.refl rfl rfl rfl (fun u hu hf => r_move (rho_base rfl rfl)) ?_
          refine GE_ex (v := .int .i64 D.length) RW.refl rfl rfl rfl (fun u hu hf => r_lenSl (rho_env rfl) Try.underlying23) ?_
          refine GE_ex (v := .int .i64 ((D.length : Int) + 1)) RW.refl rfl rfl rfl (fun u hu hf => r_addI (rho_env rfl) rho_const ⟨rfl, by omega⟩) ?_
          refine GE_call (v := .int .i64 Q) (f := 18) (args := #[.int .i64 cut, .int .i64 ((D.length : Int) + 1)]) rfl rfl rfl (fun u => r_call pf18_ (map2 (rho_env rfl) (rho_env rfl)) rfl) (fun u hu hf => ?_) ?_
          · refine (within_any cut ((D.length : Int) + 1) hc (by omega) (by omega) u).mono ?_
            rintro _ u' ⟨rfl, rfl⟩
            exact ⟨by rw [HQ.out], RW.refl _⟩
          refine GE_ex (v := (cutV ia ic 0 Q)) RW.refl rfl rfl rfl (fun u hu hf => r_slH (k' := .i64) (hi := Q) sl1_29 (rho_env rfl) (rho_env rfl) (by omega)) ?_
          refine GE_ex (v := (.slice ra lr.length rc)) RW.refl rfl rfl rfl (fun u hu hf => r_move (rho_base rfl rfl)) ?_
          refine GE_any rfl rfl (fun u hu hf => ⟨_, _, r_build0 u, RW.of ((Below.refl _ _).alloc (Nat.le_refl _) _) hu.below.size, fun _ => ⟨_, rfl, hu.below.size, Sp.Own.lit 5 w8.heap.size u [] hu.below.size (by simp)⟩, fun h => by omega, fun h => by omega, fun h => by omega, fun h => by omega⟩) ?_
          refine GE_ex (v := (.slice ia D.length ic)) RW.refl rfl rfl rfl (fun u hu hf => r_move (rho_base rfl rfl)) ?_
          refine GE_any rfl rfl (fun u hu hf => ?_) ?_
          · obtain ⟨g0, hx9, hg0, ho9⟩ := (hf 9 rfl (by decide) rfl).1 rfl
            rw [hx9] at ho9
            obtain ⟨v', u', hr, h1, h2, h3⟩ := run_app_grow byt29 23 w8.heap.size u ho9 rfl (hI8.ext hu.below) (by simp; omega) hu.below.size (by omega)
            rw [List.nil_append] at h1
            refine ⟨v', u', r_append ((rho_env rfl).trans hx9) (rho_env rfl) hr, RW.of h3 hu.below.size, fun h => by omega, fun _ => ?_, fun h => by omega, fun h => by omega, fun h => by omega⟩
            rcases h1.2 with ⟨_, h0⟩ | ⟨g, cap, cur, h0, hbg, _⟩
            · omega
            · exact ⟨g, cap, h0, hbg, h1⟩
          refine GE_any rfl rfl (fun u hu hf => ⟨_, _, r_buildB1 (x := 0) u rho_const, RW.of ((Below.refl _ _).alloc (Nat.le_refl _) _) hu.below.size, fun h => by omega, fun h => by omega, fun _ => ⟨_, rfl, Blk.new u _ 5⟩, fun h => by omega, fun h => by omega⟩) ?_
          refine GE_any rfl rfl (fun u hu hf => ?_) ?_
          · obtain ⟨g1, cap1, hx11, hg1, ho11⟩ := (hf 11 rfl (by decide) rfl).2.1 rfl
            obtain ⟨g2, hx12, ho12⟩ := (hf 12 rfl (by decide) rfl).2.2.1 rfl
            rw [hx11] at ho11
            obtain ⟨v', u', hr, h1, h2⟩ := run_app_nought byt29 23 w8.heap.size u ho11 ho12 (by omega) hu.below.size hg1
            exact ⟨v', u', r_append ((rho_env rfl).trans hx11) ((rho_env rfl).trans hx12) hr, h2, fun h => by omega, fun h => by omega, fun h => by omega, fun _ => h1, fun h => by omega⟩
          refine GE_any rfl rfl (fun u hu hf => ?_) ?_
          · have he := (hf 13 rfl (by decide) rfl).2.2.2.1 rfl
            obtain ⟨g3, cap3, cs3, hx13, _⟩ := he
            refine ⟨_, _, r_build42_5 (rho_env rfl) (rho_env rfl) (rho_env rfl) ((rho_env rfl).trans hx13) rho_const, RW.of ((Below.refl _ _).alloc (Nat.le_refl _) _) hu.below.size, fun h => by omega, fun h => by omega, fun h => by omega, fun h => by omega, fun _ => ⟨_, rfl, hu.below.size, ?_⟩⟩
            rw [hx13]
            exact Blk.new u _ 23
          refine GE_any rfl rfl (fun u hu hf => ⟨_, u, r_assign (rho_env rfl), RW.refl _, fun h => by omega, fun h => by omega, fun h => by omega, fun h => by omega, fun _ => (hf 14 rfl (by decide) rfl).2.2.2.2 (.inl rfl)⟩) ?_
          refine GE_nil fun w9 hu hf => ?_
          rw [withEnv_norm (rfl : setsL _ 0 _ = [_, _, _, _, _, _, _, _, _, _, _, _, _, _, _, _, _, _, _, _, _, _, _, _, _, _, _, _, _, _, _, _, _, _, _, _, _, _, _, _, _, _, _, _, _, _, _, _, _, _, _, _, _, _, _, _, _, _, _, _, _, _, _, _, _, _, _, _, _, _, _, _, _, _, _, _, _, _, _, _, _, _, _, _, _, _, _, _, _, _, _, _, _, _, _, _, _, _, _, _, _, _, _, _, _, _, _, _, _, _, _, _, _, _, _, _, _, _, _, _, _, _, _, _, _, _, _, _, _, _, _, _, _, _, _, _, _, _, _, _, _, _, _, _, _, _, _, _, _, _, _, _, _, _, _, _, _, _, _, _, _, _, _, _, _])]
          obtain ⟨gs, hx15, hgs, hRows⟩ := (hf 15 (by decide) rfl).2.2.2.2 (.inr rfl)
          have he13 := ((hf 13 (by decide) rfl).2.2.2.1 rfl).byt
          obtain ⟨ea, ec, hx13, _, _⟩ := he13.len
          obtain ⟨zl, hzl⟩ : ∃ m, m = (D ++ [0]).length := ⟨_, rfl⟩
          rw [← hzl] at hx13
          clear hzl
          rw [hx13] at he13
          rw [hx15, hx13]
          rw [hx13] at hRows
          have hbw9 := hbw.trans (hu.below.mono hbw.size)
          have hcut9 := (hI8.ext hu.below).cut 0 Q (by omega) hQ1
          clear hf
          generalize x 9 = x9
          generalize x 11 = x11
          generalize x 12 = x12
          generalize x 14 = x14
          obtain ⟨CS, hCS⟩ : ∃ CS, CS = (#[(.slice (some ⟨gz, 0, none⟩) D.length cz), cutV ia ic 0 Q, .slice ra lr.length rc, .slice ea zl ec, .slice none 0 0] : Array Value) := ⟨_, rfl⟩
          rw [← hCS] at hRows
          have hel : ∀ (k : Nat) (v : Value), CS[k]? = some v → ∃ l, Byt w9 v l := by
            intro k v hv
            rw [hCS] at hv
            have hk5 : k < 5 := by
              rcases Nat.lt_or_ge k 5 with h | h
              · exact h
              · rw [Array.getElem?_eq_none (by simpa using h)] at hv; cases hv
            obtain rfl | rfl | rfl | rfl | rfl : k = 0 ∨ k = 1 ∨ k = 2 ∨ k = 3 ∨ k = 4 := by omega
            all_goals simp only [List.getElem?_toArray, List.getElem?_cons_zero, List.getElem?_cons_succ, Option.some.injEq] at hv
            all_goals subst hv
            · exact ⟨_, hz8.ext hu.below⟩
            · exact ⟨_, hcut9⟩
            · exact ⟨_, HRW.out.ext hbw9⟩
            · exact ⟨_, he13⟩
            · exact ⟨_, Byt.nil _⟩
          have hsz5 : CS.size = 5 := by rw [hCS]; rfl
          have HEL := Lib.hid hel
          have HSZ5 := Lib.hid hsz5
          clear hel hsz5 hCS hcut9 he13 hz8 hI8 hu hbr hbw
          go_wp2_with fail
          go_loopw [21, 22, 23, 24, 25, 26, 27, 28, 29] (fun i _ _ _ _ _ _ _ _ wr => ∃ (k1 : Nat), k1 ≤ 5 ∧ i = .int .i64 k1 ∧ Blk wr gs CS 23 ∧ Below w9.heap.size w9 wr) (fun i _ _ _ _ _ _ _ _ _ => (6 - intOf i).toNat)
          case atStart => exact ⟨0, by omega, rfl, hRows, Below.refl _ _⟩
          case round =>
            clear hRows
            obtain ⟨k1, hk5, rfl, hRows, hbr⟩ := hrel
            by_cases hlt : k1 < 5
            · have hlt' : (k1 : Int) < 5 := by omega
              obtain ⟨v, hv⟩ : ∃ v, CS[k1]? = some v := ⟨CS[k1]'(by rw [HSZ5.out]; exact hlt), by simp [HSZ5.out, hlt]⟩
              obtain ⟨l, hl⟩ := HEL.out k1 v hv
              obtain ⟨va, vc, rfl, hvc, hvm⟩ := hl.len
              unfold maxLen at hvm
              obtain ⟨nm1, i1, c1, e1, r1, b1, hm1⟩ := readM_form key l
              obtain ⟨nm2, i2, c2, e2, r2, b2, hm2⟩ := readM_form other l
              have HM1 := Lib.hid hm1
              have HM2 := Lib.hid hm2
              have HV := Lib.hid hv
              have HL := Lib.hid hl
              clear hm1 hm2 hv hl
              have hc1 : wr.cell? ⟨gs, k1, none⟩ = some (.slice va l.length vc) := by rw [hRows.cell]; exact HV.out
              go_wp2_with fail
              refine (read_any _ _ key l _ (HK.out.ext (hbw9.trans (hbr.mono hbw9.size))) (HL.out.ext hbr) (by omega)).mono ?_
              rintro _ u1 ⟨rfl, hb⟩
              rw [HM1.out]
              replace hRows := hRows.ext hb
              replace hbr := hbr.trans (hb.mono hbr.size)
              clear hb hc1
              go_wp2_with (with_reducible refine stop_st 22 118 ?_)
              refine Stop.go (wpList_store_blk rfl rfl rfl rfl (Blk.new u1 _ 35) rfl (size35 _ _ _ _ _) (by simp [tokV, Value.oneCell']) ?_)
              intro v1 h22 hO
              have hb : Below u1.heap.size u1 v1 := ((Below.refl _ _).alloc (Nat.le_refl _) _).trans (hO.below (Nat.le_refl _) (by simp))
              replace hRows := hRows.ext hb
              replace hbr := hbr.trans (hb.mono hbr.size)
              clear hO hb
              have hc2 : v1.cell? ⟨gs, k1, none⟩ = some (.slice va l.length vc) := by rw [hRows.cell]; exact HV.out
              go_wp2_with fail
              refine (rread_any _ _ key l _ (HK.out.ext (hbw9.trans (hbr.mono hbw9.size))) (HL.out.ext hbr) (by omega)).mono ?_
              rintro _ u2 ⟨rfl, hb⟩
              rw [HM1.out]
              replace hRows := hRows.ext hb
              replace hbr := hbr.trans (hb.mono hbr.size)
              replace h22 := h22.ext hb
              clear hb hc2
              go_wp2_with (with_reducible refine stop_st 24 127 ?_)
              refine Stop.go (wpList_store_blk rfl rfl rfl rfl (Blk.new u2 _ 35) rfl (size35 _ _ _ _ _) (by simp [tokV, Value.oneCell']) ?_)
              intro v2 h24 hO
              have hb : Below u2.heap.size u2 v2 := ((Below.refl _ _).alloc (Nat.le_refl _) _).trans (hO.below (Nat.le_refl _) (by simp))
              replace hRows := hRows.ext hb
              replace hbr := hbr.trans (hb.mono hbr.size)
              replace h22 := h22.ext hb
              clear hO hb
              have hc3 : v2.cell? ⟨gs, k1, none⟩ = some (.slice va l.length vc) := by rw [hRows.cell]; exact HV.out
              go_wp2_with fail
              refine (read_any _ _ other l _ (HO.out.ext (hbw9.trans (hbr.mono hbw9.size))) (HL.out.ext hbr) (by omega)).mono ?_
              rintro _ u3 ⟨rfl, hb⟩
              rw [HM2.out]
              replace hRows := hRows.ext hb
              replace hbr := hbr.trans (hb.mono hbr.size)
              replace h22 := h22.ext hb
              replace h24 := h24.ext hb
              clear hb hc3
              go_wp2_with (with_reducible refine stop_st 26 136 ?_)
              refine Stop.go (wpList_store_blk rfl rfl rfl rfl (Blk.new u3 _ 35) rfl (size35 _ _ _ _ _) (by simp [tokV, Value.oneCell']) ?_)
              intro v3 h26 hO
              have hb : Below u3.heap.size u3 v3 := ((Below.refl _ _).alloc (Nat.le_refl _) _).trans (hO.below (Nat.le_refl _) (by simp))
              replace hRows := hRows.ext hb
              replace hbr := hbr.trans (hb.mono hbr.size)
              replace h22 := h22.ext hb
              replace h24 := h24.ext hb
              clear hO hb
              have hc4 : v3.cell? ⟨gs, k1, none⟩ = some (.slice va l.length vc) := by rw [hRows.cell]; exact HV.out
              go_wp2_with fail
              refine (rread_any _ _ other l _ (HO.out.ext (hbw9.trans (hbr.mono hbw9.size))) (HL.out.ext hbr) (by omega)).mono ?_
              rintro _ u4 ⟨rfl, hb⟩
              rw [HM2.out]
              replace hRows := hRows.ext hb
              replace hbr := hbr.trans (hb.mono hbr.size)
              replace h22 := h22.ext hb
              replace h24 := h24.ext hb
              replace h26 := h26.ext hb
              clear hb hc4
              go_wp2_with (with_reducible refine stop_st 28 145 ?_)
              refine Stop.go (wpList_store_blk rfl rfl rfl rfl (Blk.new u4 _ 35) rfl (size35 _ _ _ _ _) (by simp [tokV, Value.oneCell']) ?_)
              intro v4 h28 hO
              have hb : Below u4.heap.size u4 v4 := ((Below.refl _ _).alloc (Nat.le_refl _) _).trans (hO.below (Nat.le_refl _) (by simp))
              replace hRows := hRows.ext hb
              replace hbr := hbr.trans (hb.mono hbr.size)
              replace h22 := h22.ext hb
              replace h24 := h24.ext hb
              replace h26 := h26.ext hb
              clear hO hb
              go_wp2_with (with_reducible refine stop_at 151 ?_)
              refine Stop.go (wpList_valw (by kernel_rfl) (r_loadBlk rfl h22 Try.underlying35 rfl (size35 _ _ _ _ _)) ?_)
              go_wp2_with (with_reducible refine stop_at 152 ?_)
              refine Stop.go (wpList_valw (by kernel_rfl) (r_loadBlk rfl h24 Try.underlying35 rfl (size35 _ _ _ _ _)) ?_)
              go_wp2_with (with_reducible refine stop_at 153 ?_)
              refine Stop.go (wpList_valw (by kernel_rfl) (r_neqTok (nm := nm1) (i := i1) (c := c1) (e := e1) (r := r1) (nm' := nm1) (i' := i1) (c' := c1) (e' := e1) (r' := r1) rfl rfl) ?_)
              rw [tokEq_self]
              go_wp2_with (with_reducible refine stop_at 161 ?_)
              refine Stop.go (wpList_valw (by kernel_rfl) (r_loadBlk rfl h26 Try.underlying35 rfl (size35 _ _ _ _ _)) ?_)
              go_wp2_with (with_reducible refine stop_at 162 ?_)
              refine Stop.go (wpList_valw (by kernel_rfl) (r_loadBlk rfl h28 Try.underlying35 rfl (size35 _ _ _ _ _)) ?_)
              go_wp2_with (with_reducible refine stop_at 163 ?_)
              refine Stop.go (wpList_valw (by kernel_rfl) (r_neqTok (nm := nm2) (i := i2) (c := c2) (e := e2) (r := r2) (nm' := nm2) (i' := i2) (c' := c2) (e' := e2) (r' := r2) rfl rfl) ?_)
              rw [tokEq_self]
              clear h22 h24 h26 h28
              go_wp2
              go_roundw
              case rel => exact ⟨k1 + 1, by omega, by go_num, hRows, hbr⟩
              case measure => simp [intOf]; omega
            · have hlt' : ¬ (k1 : Int) < 5 := by omega
              go_wp2
              go_ret
              exact ⟨rfl, hbw9.trans (hbr.mono hbw9.size)⟩
      · have hka' : (k : Int) < (la.length : Int) := by omega
        have hkb' : ¬ (k : Int) < (lb.length : Int) := by omega
        generalize hw8 : wr = w8 at *
        have hI8 := HI.out.ext hbr
        have hz8 : Byt w8 (.slice (some ⟨gz, 0, none⟩) D.length cz) zs := by
          have := hO
          rw [← HZL.out] at this
          have := this.byt
          rwa [HZL.out] at this
        have hq0 := Int.emod_nonneg cut (b := (D.length : Int) + 1) (by omega)
        have hq1 := Int.emod_lt_of_pos cut (b := (D.length : Int) + 1) (by omega)
        obtain ⟨Q, hQ⟩ : ∃ Q : Nat, (Q : Int) = cut % ((D.length : Int) + 1) := ⟨(cut % ((D.length : Int) + 1)).toNat, by omega⟩
        have hQ1 : Q ≤ D.length := by omega
        have HQ := Lib.hid hQ
        clear hQ hq0 hq1 hw8 hO
        go_wp2_with fail
        refine wp_region_GE 13 (fun j => j == 14 || j == 15) (fun j => !(j == 9 || j == 11 || j == 12 || j == 13 || j == 14 || j == 15)) (fun ix => (lookL [(.slice (some ⟨gz, 0, none⟩) D.length cz), (.slice ia D.length ic), .int .i64 cut, (.slice ia D.length ic), .int .i64 D.length, .int .i64 ((D.length : Int) + 1), .int .i64 Q, (cutV ia ic 0 Q), (.slice ra lr.length rc), undef, (.slice ia D.length ic), undef, undef, undef, undef, undef] ix).getD undef) (RW w8.heap.size D.length) (VR w8.heap.size D (.slice (some ⟨gz, 0, none⟩) D.length cz) (cutV ia ic 0 Q) (.slice ra lr.length rc)) (by kernel_rfl) (by kernel_rfl) (by kernel_rfl) (by kernel_rfl) RW.refl (fun _ _ _ => RW.trans) (RW.drew _) (VR.mono (by omega)) VR.dep fun x => ?_
        refine GE_ex (v := (.slice (some ⟨gz, 0, none⟩) D.length cz)) RW.refl rfl rfl rfl (fun u hu hf => r_move (rho_base rfl rfl)) ?_
        refine GE_ex (v := (.slice ia D.length ic)) RW.refl rfl rfl rfl (fun u hu hf => r_move (rho_base rfl rfl)) ?_
        refine GE_ex (v := .int .i64 cut) RW.refl rfl rfl rfl (fun u hu hf => r_move (rho_base rfl rfl)) ?_
        refine GE_ex (v := (.slice ia D.length ic)) RW.refl rfl rfl rfl (fun u hu hf => r_move (rho_base rfl rfl)) ?_
        refine GE_ex (v := .int .i64 D.length) RW.refl rfl rfl rfl (fun u hu hf => r_lenSl (rho_env rfl) Try.underlying23) ?_
        refine GE_ex (v := .int .i64 ((D.length : Int) + 1)) RW.refl rfl rfl rfl (fun u hu hf => r_addI (rho_env rfl) rho_const ⟨rfl, by omega⟩) ?_
        refine GE_call (v := .int .i64 Q) (f := 18) (args := #[.int .i64 cut, .int .i64 ((D.length : Int) + 1)]) rfl rfl rfl (fun u => r_call pf18_ (map2 (rho_env rfl) (rho_env rfl)) rfl) (fun u hu hf => ?_) ?_
        · refine (within_any cut ((D.length : Int) + 1) hc (by omega) (by omega) u).mono ?_
          rintro _ u' ⟨rfl, rfl⟩
          exact ⟨by rw [HQ.out], RW.refl _⟩
        refine GE_ex (v := (cutV ia ic 0 Q)) RW.refl rfl rfl rfl (fun u hu hf => r_slH (k' := .i64) (hi := Q) sl1_29 (rho_env rfl) (rho_env rfl) (by omega)) ?_
        refine GE_ex (v := (.slice ra lr.length rc)) RW.refl rfl rfl rfl (fun u hu hf => r_move (rho_base rfl rfl)) ?_
        refine GE_any rfl rfl (fun u hu hf => ⟨_, _, r_build0 u, RW.of ((Below.refl _ _).alloc (Nat.le_refl _) _) hu.below.size, fun _ => ⟨_, rfl, hu.below.size, Sp.Own.lit 5 w8.heap.size u [] hu.below.size (by simp)⟩, fun h => by omega, fun h => by omega, fun h => by omega, fun h => by omega⟩) ?_
        refine GE_ex (v := (.slice ia D.length ic)) RW.refl rfl rfl rfl (fun u hu hf => r_move (rho_base rfl rfl)) ?_
        refine GE_any rfl rfl (fun u hu hf => ?_) ?_
        · obtain ⟨g0, hx9, hg0, ho9⟩ := (hf 9 rfl (by decide) rfl).1 rfl
          rw [hx9] at ho9
          obtain ⟨v', u', hr, h1, h2, h3⟩ := run_app_grow byt29 23 w8.heap.size u ho9 rfl (hI8.ext hu.below) (by simp; omega) hu.below.size (by omega)
          rw [List.nil_append] at h1
          refine ⟨v', u', r_append ((rho_env rfl).trans hx9) (rho_env rfl) hr, RW.of h3 hu.below.size, fun h => by omega, fun _ => ?_, fun h => by omega, fun h => by omega, fun h => by omega⟩
          rcases h1.2 with ⟨_, h0⟩ | ⟨g, cap, cur, h0, hbg, _⟩
          · omega
          · exact ⟨g, cap, h0, hbg, h1⟩
        refine GE_any rfl rfl (fun u hu hf => ⟨_, _, r_buildB1 (x := 0) u rho_const, RW.of ((Below.refl _ _).alloc (Nat.le_refl _) _) hu.below.size, fun h => by omega, fun h => by omega, fun _ => ⟨_, rfl, Blk.new u _ 5⟩, fun h => by omega, fun h => by omega⟩) ?_
        refine GE_any rfl rfl (fun u hu hf => ?_) ?_
        · obtain ⟨g1, cap1, hx11, hg1, ho11⟩ := (hf 11 rfl (by decide) rfl).2.1 rfl
          obtain ⟨g2, hx12, ho12⟩ := (hf 12 rfl (by decide) rfl).2.2.1 rfl
          rw [hx11] at ho11
          obtain ⟨v', u', hr, h1, h2⟩ := run_app_nought byt29 23 w8.heap.size u ho11 ho12 (by omega) hu.below.size hg1
          exact ⟨v', u', r_append ((rho_env rfl).trans hx11) ((rho_env rfl).trans hx12) hr, h2, fun h => by omega, fun h => by omega, fun h => by omega, fun _ => h1, fun h => by omega⟩
        refine GE_any rfl rfl (fun u hu hf => ?_) ?_
        · have he := (hf 13 rfl (by decide) rfl).2.2.2.1 rfl
          obtain ⟨g3, cap3, cs3, hx13, _⟩ := he
          refine ⟨_, _, r_build42_5 (rho_env rfl) (rho_env rfl) (rho_env rfl) ((rho_env rfl).trans hx13) rho_const, RW.of ((Below.refl _ _).alloc (Nat.le_refl _) _) hu.below.size, fun h => by omega, fun h => by omega, fun h => by omega, fun h => by omega, fun _ => ⟨_, rfl, hu.below.size, ?_⟩⟩
          rw [hx13]
          exact Blk.new u _ 23
        refine GE_any rfl rfl (fun u hu hf => ⟨_, u, r_assign (rho_env rfl), RW.refl _, fun h => by omega, fun h => by omega, fun h => by omega, fun h => by omega, fun _ => (hf 14 rfl (by decide) rfl).2.2.2.2 (.inl rfl)⟩) ?_
        refine GE_nil fun w9 hu hf => ?_
        rw [withEnv_norm (rfl : setsL _ 0 _ = [_, _, _, _, _, _, _, _, _, _, _, _, _, _, _, _, _, _, _, _, _, _, _, _, _, _, _, _, _, _, _, _, _, _, _, _, _, _, _, _, _, _, _, _, _, _, _, _, _, _, _, _, _, _, _, _, _, _, _, _, _, _, _, _, _, _, _, _, _, _, _, _, _, _, _, _, _, _, _, _, _, _, _, _, _, _, _, _, _, _, _, _, _, _, _, _, _, _, _, _, _, _, _, _, _, _, _, _, _, _, _, _, _, _, _, _, _, _, _, _, _, _, _, _, _, _, _, _, _, _, _, _, _, _, _, _, _, _, _, _, _, _, _, _, _, _, _, _, _, _, _, _, _, _, _, _, _, _, _, _, _, _, _, _, _])]
        obtain ⟨gs, hx15, hgs, hRows⟩ := (hf 15 (by decide) rfl).2.2.2.2 (.inr rfl)
        have he13 := ((hf 13 (by decide) rfl).2.2.2.1 rfl).byt
        obtain ⟨ea, ec, hx13, _, _⟩ := he13.len
        obtain ⟨zl, hzl⟩ : ∃ m, m = (D ++ [0]).length := ⟨_, rfl⟩
        rw [← hzl] at hx13
        clear hzl
        rw [hx13] at he13
        rw [hx15, hx13]
        rw [hx13] at hRows
        have hbw9 := hbw.trans (hu.below.mono hbw.size)
        have hcut9 := (hI8.ext hu.below).cut 0 Q (by omega) hQ1
        clear hf
        generalize x 9 = x9
        generalize x 11 = x11
        generalize x 12 = x12
        generalize x 14 = x14
        obtain ⟨CS, hCS⟩ : ∃ CS, CS = (#[(.slice (some ⟨gz, 0, none⟩) D.length cz), cutV ia ic 0 Q, .slice ra lr.length rc, .slice ea zl ec, .slice none 0 0] : Array Value) := ⟨_, rfl⟩
        rw [← hCS] at hRows
        have hel : ∀ (k : Nat) (v : Value), CS[k]? = some v → ∃ l, Byt w9 v l := by
          intro k v hv
          rw [hCS] at hv
          have hk5 : k < 5 := by
            rcases Nat.lt_or_ge k 5 with h | h
            · exact h
            · rw [Array.getElem?_eq_none (by simpa using h)] at hv; cases hv
          obtain rfl | rfl | rfl | rfl | rfl : k = 0 ∨ k = 1 ∨ k = 2 ∨ k = 3 ∨ k = 4 := by omega
          all_goals simp only [List.getElem?_toArray, List.getElem?_cons_zero, List.getElem?_cons_succ, Option.some.injEq] at hv
          all_goals subst hv
          · exact ⟨_, hz8.ext hu.below⟩
          · exact ⟨_, hcut9⟩
          · exact ⟨_, HRW.out.ext hbw9⟩
          · exact ⟨_, he13⟩
          · exact ⟨_, Byt.nil _⟩
        have hsz5 : CS.size = 5 := by rw [hCS]; rfl
        have HEL := Lib.hid hel
        have HSZ5 := Lib.hid hsz5
        clear hel hsz5 hCS hcut9 he13 hz8 hI8 hu hbr hbw
        go_wp2_with fail
        go_loopw [21, 22, 23, 24, 25, 26, 27, 28, 29] (fun i _ _ _ _ _ _ _ _ wr => ∃ (k1 : Nat), k1 ≤ 5 ∧ i = .int .i64 k1 ∧ Blk wr gs CS 23 ∧ Below w9.heap.size w9 wr) (fun i _ _ _ _ _ _ _ _ _ => (6 - intOf i).toNat)
        case atStart => exact ⟨0, by omega, rfl, hRows, Below.refl _ _⟩
        case round =>
          clear hRows
          obtain ⟨k1, hk5, rfl, hRows, hbr⟩ := hrel
          by_cases hlt : k1 < 5
          · have hlt' : (k1 : Int) < 5 := by omega
            obtain ⟨v, hv⟩ : ∃ v, CS[k1]? = some v := ⟨CS[k1]'(by rw [HSZ5.out]; exact hlt), by simp [HSZ5.out, hlt]⟩
            obtain ⟨l, hl⟩ := HEL.out k1 v hv
            obtain ⟨va, vc, rfl, hvc, hvm⟩ := hl.len
            unfold maxLen at hvm
            obtain ⟨nm1, i1, c1, e1, r1, b1, hm1⟩ := readM_form key l
            obtain ⟨nm2, i2, c2, e2, r2, b2, hm2⟩ := readM_form other l
            have HM1 := Lib.hid hm1
            have HM2 := Lib.hid hm2
            have HV := Lib.hid hv
            have HL := Lib.hid hl
            clear hm1 hm2 hv hl
            have hc1 : wr.cell? ⟨gs, k1, none⟩ = some (.slice va l.length vc) := by rw [hRows.cell]; exact HV.out
            go_wp2_with fail
            refine (read_any _ _ key l _ (HK.out.ext (hbw9.trans (hbr.mono hbw9.size))) (HL.out.ext hbr) (by omega)).mono ?_
            rintro _ u1 ⟨rfl, hb⟩
            rw [HM1.out]
            replace hRows := hRows.ext hb
            replace hbr := hbr.trans (hb.mono hbr.size)
            clear hb hc1
            go_wp2_with (with_reducible refine stop_st 22 118 ?_)
            refine Stop.go (wpList_store_blk rfl rfl rfl rfl (Blk.new u1 _ 35) rfl (size35 _ _ _ _ _) (by simp [tokV, Value.oneCell']) ?_)
            intro v1 h22 hO
            have hb : Below u1.heap.size u1 v1 := ((Below.refl _ _).alloc (Nat.le_refl _) _).trans (hO.below (Nat.le_refl _) (by simp))
            replace hRows := hRows.ext hb
            replace hbr := hbr.trans (hb.mono hbr.size)
            clear hO hb
            have hc2 : v1.cell? ⟨gs, k1, none⟩ = some (.slice va l.length vc) := by rw [hRows.cell]; exact HV.out
            go_wp2_with fail
            refine (rread_any _ _ key l _ (HK.out.ext (hbw9.trans (hbr.mono hbw9.size))) (HL.out.ext hbr) (by omega)).mono ?_
            rintro _ u2 ⟨rfl, hb⟩
            rw [HM1.out]
            replace hRows := hRows.ext hb
            replace hbr := hbr.trans (hb.mono hbr.size)
            replace h22 := h22.ext hb
            clear hb hc2
            go_wp2_with (with_reducible refine stop_st 24 127 ?_)
            refine Stop.go (wpList_store_blk rfl rfl rfl rfl (Blk.new u2 _ 35) rfl (size35 _ _ _ _ _) (by simp [tokV, Value.oneCell']) ?_)
            intro v2 h24 hO
            have hb : Below u2.heap.size u2 v2 := ((Below.refl _ _).alloc (Nat.le_refl _) _).trans (hO.below (Nat.le_refl _) (by simp))
            replace hRows := hRows.ext hb
            replace hbr := hbr.trans (hb.mono hbr.size)
            replace h22 := h22.ext hb
            clear hO hb
            have hc3 : v2.cell? ⟨gs, k1, none⟩ = some (.slice va l.length vc) := by rw [hRows.cell]; exact HV.out
            go_wp2_with fail
            refine (read_any _ _ other l _ (HO.out.ext (hbw9.trans (hbr.mono hbw9.size))) (HL.out.ext hbr) (by omega)).mono ?_
            rintro _ u3 ⟨rfl, hb⟩
            rw [HM2.out]
            replace hRows := hRows.ext hb
            replace hbr := hbr.trans (hb.mono hbr.size)
            replace h22 := h22.ext hb
            replace h24 := h24.ext hb
            clear hb hc3
            go_wp2_with (with_reducible refine stop_st 26 136 ?_)
            refine Stop.go (wpList_store_blk rfl rfl rfl rfl (Blk.new u3 _ 35) rfl (size35 _ _ _ _ _) (by simp [tokV, Value.oneCell']) ?_)
            intro v3 h26 hO
            have hb : Below u3.heap.size u3 v3 := ((Below.refl _ _).alloc (Nat.le_refl _) _).trans (hO.below (Nat.le_refl _) (by simp))
            replace hRows := hRows.ext hb
            replace hbr := hbr.trans (hb.mono hbr.size)
            replace h22 := h22.ext hb
            replace h24 := h24.ext hb
            clear hO hb
            have hc4 : v3.cell? ⟨gs, k1, none⟩ = some (.slice va l.length vc) := by rw [hRows.cell]; exact HV.out
            go_wp2_with fail
            refine (rread_any _ _ other l _ (HO.out.ext (hbw9.trans (hbr.mono hbw9.size))) (HL.out.ext hbr) (by omega)).mono ?_
            rintro _ u4 ⟨rfl, hb⟩
            rw [HM2.out]
            replace hRows := hRows.ext hb
            replace hbr := hbr.trans (hb.mono hbr.size)
            replace h22 := h22.ext hb
            replace h24 := h24.ext hb
            replace h26 := h26.ext hb
            clear hb hc4
            go_wp2_with (with_reducible refine stop_st 28 145 ?_)
            refine Stop.go (wpList_store_blk rfl rfl rfl rfl (Blk.new u4 _ 35) rfl (size35 _ _ _ _ _) (by simp [tokV, Value.oneCell']) ?_)
            intro v4 h28 hO
            have hb : Below u4.heap.size u4 v4 := ((Below.refl _ _).alloc (Nat.le_refl _) _).trans (hO.below (Nat.le_refl _) (by simp))
            replace hRows := hRows.ext hb
            replace hbr := hbr.trans (hb.mono hbr.size)
            replace h22 := h22.ext hb
            replace h24 := h24.ext hb
            replace h26 := h26.ext hb
            clear hO hb
            go_wp2_with (with_reducible refine stop_at 151 ?_)
            refine Stop.go (wpList_valw (by kernel_rfl) (r_loadBlk rfl h22 Try.underlying35 rfl (size35 _ _ _ _ _)) ?_)
            go_wp2_with (with_reducible refine stop_at 152 ?_)
            refine Stop.go (wpList_valw (by kernel_rfl) (r_loadBlk rfl h24 Try.underlying35 rfl (size35 _ _ _ _ _)) ?_)
            go_wp2_with (with_reducible refine stop_at 153 ?_)
            refine Stop.go (wpList_valw (by kernel_rfl) (r_neqTok (nm := nm1) (i := i1) (c := c1) (e := e1) (r := r1) (nm' := nm1) (i' := i1) (c' := c1) (e' := e1) (r' := r1) rfl rfl) ?_)
            rw [tokEq_self]
            go_wp2_with (with_reducible refine stop_at 161 ?_)
            refine Stop.go (wpList_valw (by kernel_rfl) (r_loadBlk rfl h26 Try.underlying35 rfl (size35 _ _ _ _ _)) ?_)
            go_wp2_with (with_reducible refine stop_at 162 ?_)
            refine Stop.go (wpList_valw (by kernel_rfl) (r_loadBlk rfl h28 Try.underlying35 rfl (size35 _ _ _ _ _)) ?_)
            go_wp2_with (with_reducible refine stop_at 163 ?_)
            refine Stop.go (wpList_valw (by kernel_rfl) (r_neqTok (nm := nm2) (i := i2) (c := c2) (e := e2) (r := r2) (nm' := nm2) (i' := i2) (c' := c2) (e' := e2) (r' := r2) rfl rfl) ?_)
            rw [tokEq_self]
            clear h22 h24 h26 h28
            go_wp2
            go_roundw
            case rel => exact ⟨k1 + 1, by omega, by go_num, hRows, hbr⟩
            case measure => simp [intOf]; omega
          · have hlt' : ¬ (k1 : Int) < 5 := by omega
            go_wp2
            go_ret
            exact ⟨rfl, hbw9.trans (hbr.mono hbw9.size)⟩
    · have hka' : ¬ (k : Int) < (la.length : Int) := by omega
      generalize hw8 : wr = w8 at *
      have hI8 := HI.out.ext hbr
      have hz8 : Byt w8 (.slice (some ⟨gz, 0, none⟩) D.length cz) zs := by
        have := hO
        rw [← HZL.out] at this
        have := this.byt
        rwa [HZL.out] at this
      have hq0 := Int.emod_nonneg cut (b := (D.length : Int) + 1) (by omega)
      have hq1 := Int.emod_lt_of_pos cut (b := (D.length : Int) + 1) (by omega)
      obtain ⟨Q, hQ⟩ : ∃ Q : Nat, (Q : Int) = cut % ((D.length : Int) + 1) := ⟨(cut % ((D.length : Int) + 1)).toNat, by omega⟩
      have hQ1 : Q ≤ D.length := by omega
      have HQ := Lib.hid hQ
      clear hQ hq0 hq1 hw8 hO
      go_wp2_with fail
      refine wp_region_GE 13 (fun j => j == 14 || j == 15) (fun j => !(j == 9 || j == 11 || j == 12 || j == 13 || j == 14 || j == 15)) (fun ix => (lookL [(.slice (some ⟨gz, 0, none⟩) D.length cz), (.slice ia D.length ic), .int .i64 cut, (.slice ia D.length ic), .int .i64 D.length, .int .i64 ((D.length : Int) + 1), .int .i64 Q, (cutV ia ic 0 Q), (.slice ra lr.length rc), undef, (.slice ia D.length ic), undef, undef, undef, undef, undef] ix).getD undef) (RW w8.heap.size D.length) (VR w8.heap.size D (.slice (some ⟨gz, 0, none⟩) D.length cz) (cutV ia ic 0 Q) (.slice ra lr.length rc)) (by kernel_rfl) (by kernel_rfl) (by kernel_rfl) (by kernel_rfl) RW.refl (fun _ _ _ => RW.trans) (RW.drew _) (VR.mono (by omega)) VR.dep fun x => ?_
      refine GE_ex (v := (.slice (some ⟨gz, 0, none⟩) D.length cz)) RW.refl rfl rfl rfl (fun u hu hf => r_move (rho_base rfl rfl)) ?_
      refine GE_ex (v := (.slice ia D.length ic)) RW.refl rfl rfl rfl (fun u hu hf => r_move (rho_base rfl rfl)) ?_
      refine GE_ex (v := .int .i64 cut) RW.refl rfl rfl rfl (fun u hu hf => r_move (rho_base rfl rfl)) ?_
      refine GE_ex (v := (.slice ia D.length ic)) RW.refl rfl rfl rfl (fun u hu hf => r_move (rho_base rfl rfl)) ?_
      refine GE_ex (v := .int .i64 D.length) RW.refl rfl rfl rfl (fun u hu hf => r_lenSl (rho_env rfl) Try.underlying23) ?_
      refine GE_ex (v := .int .i64 ((D.length : Int) + 1)) RW.refl rfl rfl rfl (fun u hu hf => r_addI (rho_env rfl) rho_const ⟨rfl, by omega⟩) ?_
      refine GE_call (v := .int .i64 Q) (f := 18) (args := #[.int .i64 cut, .int .i64 ((D.length : Int) + 1)]) rfl rfl rfl (fun u => r_call pf18_ (map2 (rho_env rfl) (rho_env rfl)) rfl) (fun u hu hf => ?_) ?_
      · refine (within_any cut ((D.length : Int) + 1) hc (by omega) (by omega) u).mono ?_
        rintro _ u' ⟨rfl, rfl⟩
        exact ⟨by rw [HQ.out], RW.refl _⟩
      refine GE_ex (v := (cutV ia ic 0 Q)) RW.refl rfl rfl rfl (fun u hu hf => r_slH (k' := .i64) (hi := Q) sl1_29 (rho_env rfl) (rho_env rfl) (by omega)) ?_
      refine GE_ex (v := (.slice ra lr.length rc)) RW.refl rfl rfl rfl (fun u hu hf => r_move (rho_base rfl rfl)) ?_
      refine GE_any rfl rfl (fun u hu hf => ⟨_, _, r_build0 u, RW.of ((Below.refl _ _).alloc (Nat.le_refl _) _) hu.below.size, fun _ => ⟨_, rfl, hu.below.size, Sp.Own.lit 5 w8.heap.size u [] hu.below.size (by simp)⟩, fun h => by omega, fun h => by omega, fun h => by omega, fun h => by omega⟩) ?_
      refine GE_ex (v := (.slice ia D.length ic)) RW.refl rfl rfl rfl (fun u hu hf => r_move (rho_base rfl rfl)) ?_
      refine GE_any rfl rfl (fun u hu hf => ?_) ?_
      · obtain ⟨g0, hx9, hg0, ho9⟩ := (hf 9 rfl (by decide) rfl).1 rfl
        rw [hx9] at ho9
        obtain ⟨v', u', hr, h1, h2, h3⟩ := run_app_grow byt29 23 w8.heap.size u ho9 rfl (hI8.ext hu.below) (by simp; omega) hu.below.size (by omega)
        rw [List.nil_append] at h1
        refine ⟨v', u', r_append ((rho_env rfl).trans hx9) (rho_env rfl) hr, RW.of h3 hu.below.size, fun h => by omega, fun _ => ?_, fun h => by omega, fun h => by omega, fun h => by omega⟩
        rcases h1.2 with ⟨_, h0⟩ | ⟨g, cap, cur, h0, hbg, _⟩
        · omega
        · exact ⟨g, cap, h0, hbg, h1⟩
      refine GE_any rfl rfl (fun u hu hf => ⟨_, _, r_buildB1 (x := 0) u rho_const, RW.of ((Below.refl _ _).alloc (Nat.le_refl _) _) hu.below.size, fun h => by omega, fun h => by omega, fun _ => ⟨_, rfl, Blk.new u _ 5⟩, fun h => by omega, fun h => by omega⟩) ?_
      refine GE_any rfl rfl (fun u hu hf => ?_) ?_
      · obtain ⟨g1, cap1, hx11, hg1, ho11⟩ := (hf 11 rfl (by decide) rfl).2.1 rfl
        obtain ⟨g2, hx12, ho12⟩ := (hf 12 rfl (by decide) rfl).2.2.1 rfl
        rw [hx11] at ho11
        obtain ⟨v', u', hr, h1, h2⟩ := run_app_nought byt29 23 w8.heap.size u ho11 ho12 (by omega) hu.below.size hg1
        exact ⟨v', u', r_append ((rho_env rfl).trans hx11) ((rho_env rfl).trans hx12) hr, h2, fun h => by omega, fun h => by omega, fun h => by omega, fun _ => h1, fun h => by omega⟩
      refine GE_any rfl rfl (fun u hu hf => ?_) ?_
      · have he := (hf 13 rfl (by decide) rfl).2.2.2.1 rfl
        obtain ⟨g3, cap3, cs3, hx13, _⟩ := he
        refine ⟨_, _, r_build42_5 (rho_env rfl) (rho_env rfl) (rho_env rfl) ((rho_env rfl).trans hx13) rho_const, RW.of ((Below.refl _ _).alloc (Nat.le_refl _) _) hu.below.size, fun h => by omega, fun h => by omega, fun h => by omega, fun h => by omega, fun _ => ⟨_, rfl, hu.below.size, ?_⟩⟩
        rw [hx13]
        exact Blk.new u _ 23
      refine GE_any rfl rfl (fun u hu hf => ⟨_, u, r_assign (rho_env rfl), RW.refl _, fun h => by omega, fun h => by omega, fun h => by omega, fun h => by omega, fun _ => (hf 14 rfl (by decide) rfl).2.2.2.2 (.inl rfl)⟩) ?_
      refine GE_nil fun w9 hu hf => ?_
      rw [withEnv_norm (rfl : setsL _ 0 _ = [_, _, _, _, _, _, _, _, _, _, _, _, _, _, _, _, _, _, _, _, _, _, _, _, _, _, _, _, _, _, _, _, _, _, _, _, _, _, _, _, _, _, _, _, _, _, _, _, _, _, _, _, _, _, _, _, _, _, _, _, _, _, _, _, _, _, _, _, _, _, _, _, _, _, _, _, _, _, _, _, _, _, _, _, _, _, _, _, _, _, _, _, _, _, _, _, _, _, _, _, _, _, _, _, _, _, _, _, _, _, _, _, _, _, _, _, _, _, _, _, _, _, _, _, _, _, _, _, _, _, _, _, _, _, _, _, _, _, _, _, _, _, _, _, _, _, _, _, _, _, _, _, _, _, _, _, _, _, _, _, _, _, _, _, _])]
      obtain ⟨gs, hx15, hgs, hRows⟩ := (hf 15 (by decide) rfl).2.2.2.2 (.inr rfl)
      have he13 := ((hf 13 (by decide) rfl).2.2.2.1 rfl).byt
      obtain ⟨ea, ec, hx13, _, _⟩ := he13.len
      obtain ⟨zl, hzl⟩ : ∃ m, m = (D ++ [0]).length := ⟨_, rfl⟩
      rw [← hzl] at hx13
      clear hzl
      rw [hx13] at he13
      rw [hx15, hx13]
      rw [hx13] at hRows
      have hbw9 := hbw.trans (hu.below.mono hbw.size)
      have hcut9 := (hI8.ext hu.below).cut 0 Q (by omega) hQ1
      clear hf
      generalize x 9 = x9
      generalize x 11 = x11
      generalize x 12 = x12
      generalize x 14 = x14
      obtain ⟨CS, hCS⟩ : ∃ CS, CS = (#[(.slice (some ⟨gz, 0, none⟩) D.length cz), cutV ia ic 0 Q, .slice ra lr.length rc, .slice ea zl ec, .slice none 0 0] : Array Value) := ⟨_, rfl⟩
      rw [← hCS] at hRows
      have hel : ∀ (k : Nat) (v : Value), CS[k]? = some v → ∃ l, Byt w9 v l := by
        intro k v hv
        rw [hCS] at hv
        have hk5 : k < 5 := by
          rcases Nat.lt_or_ge k 5 with h | h
          · exact h
          · rw [Array.getElem?_eq_none (by simpa using h)] at hv; cases hv
        obtain rfl | rfl | rfl | rfl | rfl : k = 0 ∨ k = 1 ∨ k = 2 ∨ k = 3 ∨ k = 4 := by omega
        all_goals simp only [List.getElem?_toArray, List.getElem?_cons_zero, List.getElem?_cons_succ, Option.some.injEq] at hv
        all_goals subst hv
        · exact ⟨_, hz8.ext hu.below⟩
        · exact ⟨_, hcut9⟩
        · exact ⟨_, HRW.out.ext hbw9⟩
        · exact ⟨_, he13⟩
        · exact ⟨_, Byt.nil _⟩
      have hsz5 : CS.size = 5 := by rw [hCS]; rfl
      have HEL := Lib.hid hel
      have HSZ5 := Lib.hid hsz5
      clear hel hsz5 hCS hcut9 he13 hz8 hI8 hu hbr hbw
      go_wp2_with fail
      go_loopw [21, 22, 23, 24, 25, 26, 27, 28, 29] (fun i _ _ _ _ _ _ _ _ wr => ∃ (k1 : Nat), k1 ≤ 5 ∧ i = .int .i64 k1 ∧ Blk wr gs CS 23 ∧ Below w9.heap.size w9 wr) (fun i _ _ _ _ _ _ _ _ _ => (6 - intOf i).toNat)
      case atStart => exact ⟨0, by omega, rfl, hRows, Below.refl _ _⟩
      case round =>
        clear hRows
        obtain ⟨k1, hk5, rfl, hRows, hbr⟩ := hrel
        by_cases hlt : k1 < 5
        · have hlt' : (k1 : Int) < 5 := by omega
          obtain ⟨v, hv⟩ : ∃ v, CS[k1]? = some v := ⟨CS[k1]'(by rw [HSZ5.out]; exact hlt), by simp [HSZ5.out, hlt]⟩
          obtain ⟨l, hl⟩ := HEL.out k1 v hv
          obtain ⟨va, vc, rfl, hvc, hvm⟩ := hl.len
          unfold maxLen at hvm
          obtain ⟨nm1, i1, c1, e1, r1, b1, hm1⟩ := readM_form key l
          obtain ⟨nm2, i2, c2, e2, r2, b2, hm2⟩ := readM_form other l
          have HM1 := Lib.hid hm1
          have HM2 := Lib.hid hm2
          have HV := Lib.hid hv
          have HL := Lib.hid hl
          clear hm1 hm2 hv hl
          have hc1 : wr.cell? ⟨gs, k1, none⟩ = some (.slice va l.length vc) := by rw [hRows.cell]; exact HV.out
          go_wp2_with fail
          refine (read_any _ _ key l _ (HK.out.ext (hbw9.trans (hbr.mono hbw9.size))) (HL.out.ext hbr) (by omega)).mono ?_
          rintro _ u1 ⟨rfl, hb⟩
          rw [HM1.out]
          replace hRows := hRows.ext hb
          replace hbr := hbr.trans (hb.mono hbr.size)
          clear hb hc1
          go_wp2_with (with_reducible refine stop_st 22 118 ?_)
          refine Stop.go (wpList_store_blk rfl rfl rfl rfl (Blk.new u1 _ 35) rfl (size35 _ _ _ _ _) (by simp [tokV, Value.oneCell']) ?_)
          intro v1 h22 hO
          have hb : Below u1.heap.size u1 v1 := ((Below.refl _ _).alloc (Nat.le_refl _) _).trans (hO.below (Nat.le_refl _) (by simp))
          replace hRows := hRows.ext hb
          replace hbr := hbr.trans (hb.mono hbr.size)
          clear hO hb
          have hc2 : v1.cell? ⟨gs, k1, none⟩ = some (.slice va l.length vc) := by rw [hRows.cell]; exact HV.out
          go_wp2_with fail
          refine (rread_any _ _ key l _ (HK.out.ext (hbw9.trans (hbr.mono hbw9.size))) (HL.out.ext hbr) (by omega)).mono ?_
          rintro _ u2 ⟨rfl, hb⟩
          rw [HM1.out]
          replace hRows := hRows.ext hb
          replace hbr := hbr.trans (hb.mono hbr.size)
          replace h22 := h22.ext hb
          clear hb hc2
          go_wp2_with (with_reducible refine stop_st 24 127 ?_)
          refine Stop.go (wpList_store_blk rfl rfl rfl rfl (Blk.new u2 _ 35) rfl (size35 _ _ _ _ _) (by simp [tokV, Value.oneCell']) ?_)
          intro v2 h24 hO
          have hb : Below u2.heap.size u2 v2 := ((Below.refl _ _).alloc (Nat.le_refl _) _).trans (hO.below (Nat.le_refl _) (by simp))
          replace hRows := hRows.ext hb
          replace hbr := hbr.trans (hb.mono hbr.size)
          replace h22 := h22.ext hb
          clear hO hb
          have hc3 : v2.cell? ⟨gs, k1, none⟩ = some (.slice va l.length vc) := by rw [hRows.cell]; exact HV.out
          go_wp2_with fail
          refine (read_any _ _ other l _ (HO.out.ext (hbw9.trans (hbr.mono hbw9.size))) (HL.out.ext hbr) (by omega)).mono ?_
          rintro _ u3 ⟨rfl, hb⟩
          rw [HM2.out]
          replace hRows := hRows.ext hb
          replace hbr := hbr.trans (hb.mono hbr.size)
          replace h22 := h22.ext hb
          replace h24 := h24.ext hb
          clear hb hc3
          go_wp2_with (with_reducible refine stop_st 26 136 ?_)
          refine Stop.go (wpList_store_blk rfl rfl rfl rfl (Blk.new u3 _ 35) rfl (size35 _ _ _ _ _) (by simp [tokV, Value.oneCell']) ?_)
          intro v3 h26 hO
          have hb : Below u3.heap.size u3 v3 := ((Below.refl _ _).alloc (Nat.le_refl _) _).trans (hO.below (Nat.le_refl _) (by simp))
          replace hRows := hRows.ext hb
          replace hbr := hbr.trans (hb.mono hbr.size)
          replace h22 := h22.ext hb
          replace h24 := h24.ext hb
          clear hO hb
          have hc4 : v3.cell? ⟨gs, k1, none⟩ = some (.slice va l.length vc) := by rw [hRows.cell]; exact HV.out
          go_wp2_with fail
          refine (rread_any _ _ other l _ (HO.out.ext (hbw9.trans (hbr.mono hbw9.size))) (HL.out.ext hbr) (by omega)).mono ?_
          rintro _ u4 ⟨rfl, hb⟩
          rw [HM2.out]
          replace hRows := hRows.ext hb
          replace hbr := hbr.trans (hb.mono hbr.size)
          replace h22 := h22.ext hb
          replace h24 := h24.ext hb
          replace h26 := h26.ext hb
          clear hb hc4
          go_wp2_with (with_reducible refine stop_st 28 145 ?_)
          refine Stop.go (wpList_store_blk rfl rfl rfl rfl (Blk.new u4 _ 35) rfl (size35 _ _ _ _ _) (by simp [tokV, Value.oneCell']) ?_)
          intro v4 h28 hO
          have hb : Below u4.heap.size u4 v4 := ((Below.refl _ _).alloc (Nat.le_refl _) _).trans (hO.below (Nat.le_refl _) (by simp))
          replace hRows := hRows.ext hb
          replace hbr := hbr.trans (hb.mono hbr.size)
          replace h22 := h22.ext hb
          replace h24 := h24.ext hb
          replace h26 := h26.ext hb
          clear hO hb
          go_wp2_with (with_reducible refine stop_at 151 ?_)
          refine Stop.go (wpList_valw (by kernel_rfl) (r_loadBlk rfl h22 Try.underlying35 rfl (size35 _ _ _ _ _)) ?_)
          go_wp2_with (with_reducible refine stop_at 152 ?_)
          refine Stop.go (wpList_valw (by kernel_rfl) (r_loadBlk rfl h24 Try.underlying35 rfl (size35 _ _ _ _ _)) ?_)
          go_wp2_with (with_reducible refine stop_at 153 ?_)
          refine Stop.go (wpList_valw (by kernel_rfl) (r_neqTok (nm := nm1) (i := i1) (c := c1) (e := e1) (r := r1) (nm' := nm1) (i' := i1) (c' := c1) (e' := e1) (r' := r1) rfl rfl) ?_)
          rw [tokEq_self]
          go_wp2_with (with_reducible refine stop_at 161 ?_)
          refine Stop.go (wpList_valw (by kernel_rfl) (r_loadBlk rfl h26 Try.underlying35 rfl (size35 _ _ _ _ _)) ?_)
          go_wp2_with (with_reducible refine stop_at 162 ?_)
          refine Stop.go (wpList_valw (by kernel_rfl) (r_loadBlk rfl h28 Try.underlying35 rfl (size35 _ _ _ _ _)) ?_)
          go_wp2_with (with_reducible refine stop_at 163 ?_)
          refine Stop.go (wpList_valw (by kernel_rfl) (r_neqTok (nm := nm2) (i := i2) (c := c2) (e := e2) (r := r2) (nm' := nm2) (i' := i2) (c' := c2) (e' := e2) (r' := r2) rfl rfl) ?_)
          rw [tokEq_self]
          clear h22 h24 h26 h28
          go_wp2
          go_roundw
          case rel => exact ⟨k1 + 1, by omega, by go_num, hRows, hbr⟩
          case measure => simp [intOf]; omega
        · have hlt' : ¬ (k1 : Int) < 5 := by omega
          go_wp2
          go_ret
          exact ⟨rfl, hbw9.trans (hbr.mono hbw9.size)⟩
end Go.Proofs.Ythpjihiikkhcjaa
