/-
  A part of the proofs of this seat: laws of the walk, or contracts of the functions that the statements reach. No conditions but those that each theorem names.
-/
import Derived.Test.YthpjihiikkhcjaaG8
namespace Go.Sp
open Go.RowKit
theorem Lst.ofBlk {w : World} {g : Nat} {cs : Array Value} {t : TypeId} {ls : List (List UInt8)} (hB : Blk w g cs t) (hn : ls.length ≤ maxLen) (h : ∀ (i : Nat) (l : List UInt8), ls[i]? = some l → ∃ u, cs[i]? = some u ∧ Byt w u l) : Lst w (.slice (some ⟨g, 0, none⟩) ls.length ls.length) ls :=
  .inr ⟨g, 0, ls.length, rfl, Nat.le_refl _, hn, hB.lt, fun i l hi => by
    obtain ⟨u, hu, hb⟩ := h i l hi
    exact ⟨u, by rw [hB.cell, Nat.zero_add]; exact hu, hb⟩⟩
theorem Lst.two {w : World} {u v : Value} {k l : List UInt8} {t : TypeId} (h1 : Byt w u k) (h2 : Byt w v l) : Lst (w.alloc (.cells #[u, v] t)) (.slice (some ⟨w.heap.size, 0, none⟩) 2 2) [k, l] := by
  have e := (Below.refl w.heap.size w).alloc (Nat.le_refl _) (.cells #[u, v] t)
  refine Lst.ofBlk (ls := [k, l]) (Blk.new w _ t) (by simp [maxLen]) fun i m hi => ?_
  match i, hi with
  | 0, hi => simp at hi; subst hi; exact ⟨u, rfl, h1.ext e⟩
  | 1, hi => simp at hi; subst hi; exact ⟨v, rfl, h2.ext e⟩
theorem Lst.extM {bt : TypeId} {n : Nat} {w w' : World} {v : Value} {ls : List (List UInt8)} (h : Lst w v ls) (e : ExtM bt n w w') : Lst w' v ls := by
  rcases h with h | ⟨g, off, cap, rfl, h1, h2, h3, h4⟩
  · exact .inl h
  · exact .inr ⟨g, off, cap, rfl, h1, h2, Nat.lt_of_lt_of_le h3 e.below.size, fun i l hi => by
      obtain ⟨u, hu, hb⟩ := h4 i l hi
      exact ⟨u, e.cell hu, hb.extM e⟩⟩
theorem Lst.six {w : World} {u0 u1 u2 u3 u4 u5 : Value} {k0 k1 k2 k3 k4 k5 : List UInt8} {t : TypeId} (h0 : Byt w u0 k0) (h1 : Byt w u1 k1) (h2 : Byt w u2 k2) (h3 : Byt w u3 k3) (h4 : Byt w u4 k4) (h5 : Byt w u5 k5) : Lst (w.alloc (.cells #[u0, u1, u2, u3, u4, u5] t)) (.slice (some ⟨w.heap.size, 0, none⟩) 6 6) [k0, k1, k2, k3, k4, k5] := by
  have e := (Below.refl w.heap.size w).alloc (Nat.le_refl _) (.cells #[u0, u1, u2, u3, u4, u5] t)
  refine Lst.ofBlk (ls := [k0, k1, k2, k3, k4, k5]) (Blk.new w _ t) (by simp [maxLen]) fun i n hi => ?_
  match i, hi with
  | 0, hi => simp at hi; subst hi; exact ⟨u0, rfl, h0.ext e⟩
  | 1, hi => simp at hi; subst hi; exact ⟨u1, rfl, h1.ext e⟩
  | 2, hi => simp at hi; subst hi; exact ⟨u2, rfl, h2.ext e⟩
  | 3, hi => simp at hi; subst hi; exact ⟨u3, rfl, h3.ext e⟩
  | 4, hi => simp at hi; subst hi; exact ⟨u4, rfl, h4.ext e⟩
  | 5, hi => simp at hi; subst hi; exact ⟨u5, rfl, h5.ext e⟩

theorem macB_length (key : List UInt8) (ls : List (List UInt8)) : (macB key ls).length = 16 := sumB_length _ _
theorem flat_cat (nm : List UInt8) (i c e r : Int) : (bodyB nm i c e r).length = nm.length + 33 := by
  simp [bodyB, cat, eight_length]
end Go.Sp
namespace Go.Proofs.Ythpjihiikkhcjaa
open Go.RowKit Go.Sp
theorem r_lenS {ρ : Operand → Value} {d : Option Tmp} {t ty : TypeId} {pos : String} {aft : Array Edge} {g : Option (Nat × Bool)} {x : Operand} {P : Program} {w : World} {s : ByteArray} (hx : ρ x = .string s) (ht : P.underlying t = some .string) : (execOp ρ ⟨d, .call { callee := .builtin .len, args := #[x], argTypes := #[t] }, ty, pos, aft, g⟩).run P w = .ok (.value (.int .i64 s.size)) w := by
  simp [execOp, resolve, invoke, builtin, hx, Builtin.len_, run_underlying ht, goInt]
theorem r_buildB1 {ρ : Operand → Value} {d ty pos aft g} {p : Operand} {x : UInt8} (u : World) (h1 : ρ p = B x) :
    (execOp ρ ⟨d, .buildSlice 23 1 #[(0, p)], ty, pos, aft, g⟩).run Try.prog u = .ok (.value (.slice (some ⟨u.heap.size, 0, none⟩) 1 1)) (u.alloc (.cells ([x].map B).toArray 5)) := by
  simp only [execOp]
  go_simp
theorem r_build42_6 {ρ : Operand → Value} {d ty pos aft g} {p0 p1 p2 p3 p4 p5 : Operand} {w : World} {k0 k1 k2 k3 k4 k5 : List UInt8} {v0 v1 v2 v3 v4 v5 : Value} (h0 : ρ p0 = v0) (h1 : ρ p1 = v1) (h2 : ρ p2 = v2) (h3 : ρ p3 = v3) (h4 : ρ p4 = v4) (h5 : ρ p5 = v5)
    (b0 : Byt w v0 k0) (b1 : Byt w v1 k1) (b2 : Byt w v2 k2) (b3 : Byt w v3 k3) (b4 : Byt w v4 k4) (b5 : Byt w v5 k5) :
    (execOp ρ ⟨d, .buildSlice 42 6 #[(0, p0), (1, p1), (2, p2), (3, p3), (4, p4), (5, p5)], ty, pos, aft, g⟩).run Try.prog w = .ok (.value (.slice (some ⟨w.heap.size, 0, none⟩) 6 6)) (w.alloc (.cells #[v0, v1, v2, v3, v4, v5] 23)) := by
  obtain ⟨_, _, rfl, _⟩ := b0.len
  obtain ⟨_, _, rfl, _⟩ := b1.len
  obtain ⟨_, _, rfl, _⟩ := b2.len
  obtain ⟨_, _, rfl, _⟩ := b3.len
  obtain ⟨_, _, rfl, _⟩ := b4.len
  obtain ⟨_, _, rfl, _⟩ := b5.len
  simp only [execOp]
  go_simp
theorem r_sliceArr65 {ρ : Operand → Value} {d ty pos aft g} {x : Operand} {b : Nat} (u : World) (hx : ρ x = .pointer (some ⟨b, 0, none⟩)) : (execOp ρ ⟨d, .slice 65 x none none none, ty, pos, aft, g⟩).run Try.prog u = .ok (.value (.slice (some ⟨b, 0, none⟩) 16 16)) u := by
  simp only [execOp, hx]
  go_simp
theorem Byt.ofBlk16 {w : World} {g : Nat} {l : List UInt8} {t : TypeId} (h : Blk w g (l.map B).toArray t) (hl : l.length = 16) : Byt w (.slice (some ⟨g, 0, none⟩) 16 16) l := by
  have := Byt.ofBlk h (by rw [hl]; simp [maxLen])
  rwa [hl] at this
theorem size65 {l : List UInt8} (h : l.length = 16) : (Try.prog.info? 65).map (·.size) = some (l.map B).toArray.size ∧ ∀ z : List UInt8, z.length = 16 → (z.map B).toArray.size = (l.map B).toArray.size :=
  ⟨by rw [show (l.map B).toArray.size = 16 by simp [h]]; kernel_rfl, fun z hz => by simp [h, hz]⟩
def ex21 (j : Nat) : Bool := !([4, 7, 10, 13, 16, 19, 20, 21, 22].contains j)
def V21 (nm : List UInt8) (i c e r : Int) : Nat → Value → World → Prop
  | 4, v, u => Byt u v [b8 nm.length]
  | 7, v, u => Byt u v nm
  | 10, v, u => Byt u v (eight i)
  | 13, v, u => Byt u v (eight c)
  | 16, v, u => Byt u v (eight e)
  | 19, v, u => Byt u v (eight r)
  | 20, v, u => Lst u v [[b8 nm.length], nm, eight i, eight c, eight e, eight r]
  | 21, v, u => Byt u v (bodyB nm i c e r)
  | 22, v, u => Byt u v (bodyB nm i c e r)
  | _, _, _ => True
theorem V21_mono (nm : List UInt8) (i c e r : Int) (n : Nat) (j : Nat) (v : Value) (u u' : World) (h : ExtM 5 n u u') (k : V21 nm i c e r j v u) : V21 nm i c e r j v u' := by
  unfold V21 at *
  split at k <;> first | exact k.extM h | trivial
theorem on9 : oneT Try.prog 9 = true := by kernel_rfl
theorem fld35_0 : fieldOff Try.prog 35 0 = some 0 := by kernel_rfl
theorem fld35_1 : fieldOff Try.prog 35 1 = some 1 := by kernel_rfl
theorem fld35_2 : fieldOff Try.prog 35 2 = some 2 := by kernel_rfl
theorem fld35_3 : fieldOff Try.prog 35 3 = some 3 := by kernel_rfl
theorem fld35_4 : fieldOff Try.prog 35 4 = some 4 := by kernel_rfl
set_option maxRecDepth 100000 in
set_option maxHeartbeats 4000000 in
theorem issue_any (kv : Value) (key nm : List UInt8) (i c e r : Int) (w : World) (hk : Byt w kv key) (hkl : key.length ≤ 1000) (hnl : nm.length ≤ 1000) (hi : 0 ≤ i ∧ i ≤ 9223372036854775807) (hc : 0 ≤ c ∧ c ≤ 9223372036854775807) (he : 0 ≤ e ∧ e ≤ 9223372036854775807) (hr : 0 ≤ r ∧ r ≤ 9223372036854775807) :
    Calls Try.prog 21 #[kv, .agg (tokV nm i c e r)] w fun e' w' => ∃ v', e' = .returned v' ∧ Byt w' v' (issueB key nm i c e r) ∧ Below w.heap.size w w' := by
  have HK := Lib.hid hk
  obtain ⟨R, hRR⟩ : ∃ R, R = issueB key nm i c e r := ⟨_, rfl⟩
  rw [← hRR]
  unfold issueB at hRR
  have HRR := Lib.hid hRR
  clear hRR
  obtain ⟨ka, kc, rfl, hkc, hkm⟩ := hk.len
  clear hk
  have hR : Blk (w.alloc (.cells (tokV nm i c e r) 35)) w.heap.size (tokV nm i c e r) 35 := Blk.new w _ 35
  have hbw : Below w.heap.size w (w.alloc (.cells (tokV nm i c e r) 35)) := (Below.refl _ _).alloc (Nat.le_refl _) _
  have htv : tokV nm i c e r = #[.string ⟨nm.toArray⟩, .int .i64 i, .int .i64 c, .int .i64 e, .int .i64 r] := rfl
  rw [htv]
  go_enter Try.func21, Try.ntmps21
  go_wp2
  rw [← htv]
  generalize w.alloc (.cells (tokV nm i c e r) 35) = w1 at *
  have hx : ∀ {u u' : World}, ExtM 5 w1.heap.size w1 u → Below u.heap.size u u' → ExtM 5 w1.heap.size u u' := fun h k => ExtM.of k h.below.size
  have hc0 : w1.cell? ⟨w.heap.size, 0 + 0, none⟩ = some (.string ⟨nm.toArray⟩) := by rw [hR.cell]; rfl
  have hc1 : w1.cell? ⟨w.heap.size, 0 + 1, none⟩ = some (.int .i64 i) := by rw [hR.cell]; rfl
  have hc2 : w1.cell? ⟨w.heap.size, 0 + 2, none⟩ = some (.int .i64 c) := by rw [hR.cell]; rfl
  have hc3 : w1.cell? ⟨w.heap.size, 0 + 3, none⟩ = some (.int .i64 e) := by rw [hR.cell]; rfl
  have hc4 : w1.cell? ⟨w.heap.size, 0 + 4, none⟩ = some (.int .i64 r) := by rw [hR.cell]; rfl
  refine wp_region_VE (bt := 5) ex21 (fun ix => (lookL [.pointer (some ⟨w.heap.size, 0 + 0, none⟩), .string ⟨nm.toArray⟩, .int .i64 ((nm.length : Nat) : Int), B (b8 nm.length), undef, .pointer (some ⟨w.heap.size, 0 + 0, none⟩), .string ⟨nm.toArray⟩, undef, .pointer (some ⟨w.heap.size, 0 + 1, none⟩), .int .i64 i, undef, .pointer (some ⟨w.heap.size, 0 + 2, none⟩), .int .i64 c, undef, .pointer (some ⟨w.heap.size, 0 + 3, none⟩), .int .i64 e, undef, .pointer (some ⟨w.heap.size, 0 + 4, none⟩), .int .i64 r, undef, undef, undef, undef] ix).getD undef) (V21 nm i c e r) (by kernel_rfl) (by kernel_rfl) (by kernel_rfl) (V21_mono _ _ _ _ _ _) fun x => ?_
  refine VE_ex (v := .pointer (some ⟨w.heap.size, 0 + 0, none⟩)) rfl rfl rfl (fun u hu hf => r_fieldAddr (rho_base rfl rfl) fld35_0) ?_
  refine VE_ex (v := .string ⟨nm.toArray⟩) rfl rfl rfl (fun u hu hf => r_load (rho_env rfl) on9 (hu.cell hc0)) ?_
  refine VE_ex (v := .int .i64 ((nm.length : Nat) : Int)) rfl rfl rfl (fun u hu hf => r_lenS (s := ⟨nm.toArray⟩) (rho_env rfl) Try.underlying9) ?_
  refine VE_ex (v := B (b8 nm.length)) rfl rfl rfl (fun u hu hf => r_conv (rho_env rfl) (run_convert_u8 u 3 5 _ _ rfl Try.underlying5)) ?_
  refine VE_any rfl rfl (fun u hu hf => ?_) ?_
  · exact ⟨_, _, r_buildB1 u (rho_env rfl), hx hu ((Below.refl _ _).alloc (Nat.le_refl _) _), Byt.ofBlk (l := [b8 nm.length]) (Blk.new u _ 5) (by simp [maxLen])⟩
  refine VE_ex (v := .pointer (some ⟨w.heap.size, 0 + 0, none⟩)) rfl rfl rfl (fun u hu hf => r_fieldAddr (rho_base rfl rfl) fld35_0) ?_
  refine VE_ex (v := .string ⟨nm.toArray⟩) rfl rfl rfl (fun u hu hf => r_load (rho_env rfl) on9 (hu.cell hc0)) ?_
  refine VE_any rfl rfl (fun u hu hf => ?_) ?_
  · obtain ⟨v, u', hr', hb', hbl⟩ := run_string_bytes nm (by omega) u
    exact ⟨v, u', r_conv (rho_env rfl) hr', hx hu hbl, hb'⟩
  refine VE_ex (v := .pointer (some ⟨w.heap.size, 0 + 1, none⟩)) rfl rfl rfl (fun u hu hf => r_fieldAddr (rho_base rfl rfl) fld35_1) ?_
  refine VE_ex (v := .int .i64 i) rfl rfl rfl (fun u hu hf => r_load (rho_env rfl) on3 (hu.cell hc1)) ?_
  refine VE_callp (f := 38) (args := #[.int .i64 i]) rfl rfl (fun u => r_call pf38 (map1 (rho_env rfl)) rfl) (fun u hu hf => ?_) ?_
  · refine (geight_any i u hi).mono ?_
    rintro _ u' ⟨v', rfl, ho, hb⟩
    exact ⟨v', rfl, hx hu hb, ho⟩
  refine VE_ex (v := .pointer (some ⟨w.heap.size, 0 + 2, none⟩)) rfl rfl rfl (fun u hu hf => r_fieldAddr (rho_base rfl rfl) fld35_2) ?_
  refine VE_ex (v := .int .i64 c) rfl rfl rfl (fun u hu hf => r_load (rho_env rfl) on3 (hu.cell hc2)) ?_
  refine VE_callp (f := 38) (args := #[.int .i64 c]) rfl rfl (fun u => r_call pf38 (map1 (rho_env rfl)) rfl) (fun u hu hf => ?_) ?_
  · refine (geight_any c u hc).mono ?_
    rintro _ u' ⟨v', rfl, ho, hb⟩
    exact ⟨v', rfl, hx hu hb, ho⟩
  refine VE_ex (v := .pointer (some ⟨w.heap.size, 0 + 3, none⟩)) rfl rfl rfl (fun u hu hf => r_fieldAddr (rho_base rfl rfl) fld35_3) ?_
  refine VE_ex (v := .int .i64 e) rfl rfl rfl (fun u hu hf => r_load (rho_env rfl) on3 (hu.cell hc3)) ?_
  refine VE_callp (f := 38) (args := #[.int .i64 e]) rfl rfl (fun u => r_call pf38 (map1 (rho_env rfl)) rfl) (fun u hu hf => ?_) ?_
  · refine (geight_any e u he).mono ?_
    rintro _ u' ⟨v', rfl, ho, hb⟩
    exact ⟨v', rfl, hx hu hb, ho⟩
  refine VE_ex (v := .pointer (some ⟨w.heap.size, 0 + 4, none⟩)) rfl rfl rfl (fun u hu hf => r_fieldAddr (rho_base rfl rfl) fld35_4) ?_
  refine VE_ex (v := .int .i64 r) rfl rfl rfl (fun u hu hf => r_load (rho_env rfl) on3 (hu.cell hc4)) ?_
  refine VE_callp (f := 38) (args := #[.int .i64 r]) rfl rfl (fun u => r_call pf38 (map1 (rho_env rfl)) rfl) (fun u hu hf => ?_) ?_
  · refine (geight_any r u hr).mono ?_
    rintro _ u' ⟨v', rfl, ho, hb⟩
    exact ⟨v', rfl, hx hu hb, ho⟩
  refine VE_any rfl rfl (fun u hu hf => ?_) ?_
  · exact ⟨_, _, r_build42_6 (rho_env rfl) (rho_env rfl) (rho_env rfl) (rho_env rfl) (rho_env rfl) (rho_env rfl) (hf 4 rfl (by decide) rfl) (hf 7 rfl (by decide) rfl) (hf 10 rfl (by decide) rfl) (hf 13 rfl (by decide) rfl) (hf 16 rfl (by decide) rfl) (hf 19 rfl (by decide) rfl), hx hu ((Below.refl _ _).alloc (Nat.le_refl _) _), Lst.six (hf 4 rfl (by decide) rfl) (hf 7 rfl (by decide) rfl) (hf 10 rfl (by decide) rfl) (hf 13 rfl (by decide) rfl) (hf 16 rfl (by decide) rfl) (hf 19 rfl (by decide) rfl)⟩
  refine VE_callp (f := 37) (args := #[x 20]) rfl rfl (fun u => r_call pf37 (map1 (rho_env rfl)) rfl) (fun u hu hf => ?_) ?_
  · refine (concat_any _ _ u (hf 20 rfl (by decide) rfl) (by have := flat_cat nm i c e r; unfold bodyB at this; omega)).mono ?_
    rintro _ u' ⟨v', rfl, ho, hb⟩
    exact ⟨v', rfl, hx hu hb, ho.byt⟩
  refine VE_any rfl rfl (fun u hu hf => ?_) ?_
  · exact ⟨_, _, r_assign (rho_env rfl), ExtM.refl _ _ _, hf 21 rfl (by decide) rfl⟩
  refine VE_nil fun u hu hf => ?_
  rw [withEnv_norm (rfl : setsL _ 0 _ = [_, _, _, _, _, _, _, _, _, _, _, _, _, _, _, _, _, _, _, _, _, _, _, _, _, _, _, _, _, _, _, _, _, _, _, _, _, _, _])]
  have hb2 : Byt u (x 22) (bodyB nm i c e r) := hf 22 (by decide) rfl
  have hbw2 := hbw.trans (hu.below.mono hbw.size)
  have hbl := flat_cat nm i c e r
  have hble : (bodyB nm i c e r).length ≤ 1033 := by omega
  clear hbl
  generalize bodyB nm i c e r = bd at *
  generalize x 22 = bv at *
  clear hf hx hu hbw hR hc0 hc1 hc2 hc3 hc4 htv
  obtain ⟨va, vc, rfl, hvc, hvm⟩ := hb2.len
  unfold maxLen at hvm
  generalize x 21 = x21
  generalize x 20 = x20
  obtain ⟨u2, hr2, hbt, hbl2⟩ := conv_token u tokenS (by decide)
  have hr2' : (convert 23 23 (.slice (some ⟨u.heap.size, 0, none⟩) 5 5)).run Try.prog (u.alloc (.cells #[.int .u8 116, .int .u8 111, .int .u8 107, .int .u8 101, .int .u8 110] 5)) = .ok (.slice (some ⟨u.heap.size, 0, none⟩) 5 5) u2 := hr2
  have hbt2 : Byt u2 (.slice (some ⟨u.heap.size, 0, none⟩) 5 5) tokenS := hbt
  have hbd2 := hb2.ext hbl2
  have hbw3 := hbw2.trans (hbl2.mono hbw2.size)
  have HR2 := Lib.hid hr2'
  clear hr2 hr2' hbt hbl2 hb2 hbw2
  go_wp2_with (refine (show wpList _ _ _ (⟨some 31, .convert 23 23 (.tmp 30), _, _, _, _⟩ :: _) _ _ from stop_here ?_))
  refine Stop.go (wpList_val rfl (r_conv rfl HR2.out) ?_)
  clear HR2
  go_wp2_with fail
  have ha := (Below.refl u2.heap.size u2).alloc (Nat.le_refl _) (.cells #[.slice (some ⟨u.heap.size, 0, none⟩) 5 5, .slice va bd.length vc] 23)
  refine (mac_any _ _ key [tokenS, bd] _ ((HK.out.ext hbw3).ext ha) (Lst.two hbt2 hbd2) (by omega) (len2 (by decide) (by omega))).mono ?_
  rintro _ u3 ⟨rfl, hb3⟩
  have hbb := ha.trans (hb3.mono ha.size)
  have hbd3 := hbd2.ext hbb
  have hbw4 := hbw3.trans (hbb.mono hbw3.size)
  clear ha hb3 hbb hbd2 hbw3 hbt2
  obtain ⟨A, hA⟩ : ∃ A, A = macB key [tokenS, bd] := ⟨_, rfl⟩
  have hAl : A.length = 16 := by rw [hA]; exact macB_length _ _
  have HRA : Hid (R = bd ++ A) := Lib.hid (by rw [HRR.out, hA])
  rw [← hA]
  have HAL := Lib.hid hAl
  clear hA hAl
  go_wp2_with (refine (show wpList _ _ _ (⟨none, .store 65 (.tmp 6) (.tmp 34), _, _, _, _⟩ :: _) _ _ from stop_here ?_))
  refine Stop.go (wpList_store_blk rfl rfl rfl rfl (Blk.new u3 _ 65) ((size65 HAL.out).2 (List.replicate 16 0) rfl) (size65 HAL.out).1 (bytes_one _) ?_)
  intro u4 hR4 hO4
  have hb4 : Below u3.heap.size u3 u4 := ((Below.refl _ _).alloc (Nat.le_refl _) _).trans (hO4.below (Nat.le_refl _) (by simp))
  have hbd4 := hbd3.ext hb4
  have hbw5 := hbw4.trans (hb4.mono hbw4.size)
  have hA4 := Byt.ofBlk16 hR4 HAL.out
  clear hO4 hb4 hbd3 hbw4 hR4
  go_wp2_with (refine (show wpList _ _ _ (⟨some 36, .slice 65 (.tmp 6) none none none, _, _, _, _⟩ :: _) _ _ from stop_here ?_))
  refine Stop.go (wpList_val rfl (r_sliceArr65 u4 rfl) ?_)
  go_wp2_with fail
  have ha := (Below.refl u4.heap.size u4).alloc (Nat.le_refl _) (.cells #[.slice va bd.length vc, .slice (some ⟨u3.heap.size, 0, none⟩) 16 16] 23)
  refine (concat_any _ [bd, A] _ (Lst.two hbd4 hA4) (by have := HAL.out; simp [cat]; omega)).mono ?_
  rintro _ u5 ⟨rv, rfl, hro, hb5⟩
  have hbw6 := hbw5.trans ((ha.trans (hb5.mono ha.size)).mono hbw5.size)
  have hcat : cat [bd, A] = R := by rw [HRA.out]; simp [cat]
  rw [hcat] at hro
  clear ha hb5 hcat hbw5 hbd4 hA4
  go_wp2
  go_ret
  exact ⟨_, rfl, hro.byt, hbw6⟩
theorem pf21 : plainFn Try.prog 21 = true := by kernel_rfl
end Go.Proofs.Ythpjihiikkhcjaa
