/-
  A part of the proofs of this seat: laws of the walk, or contracts of the functions that the statements reach. No conditions but those that each theorem names.
-/
import Derived.Test.YtbbpcgodjncflaaX
import Derived.Test.YtbbpcgodjncflaaRegV
import Derived.Test.YtbbpcgodjncflaaEq
import Derived.Lib.SlBytesConst
namespace Go.Sp
open Go.RowKit
theorem freeze_ext {bt : TypeId} (n : Nat) (u : World) (p : Addr) (k : Nat) (hn : n ≤ p.block) (hb : ∃ cs fr, u.heap[p.block]? = some (.cells cs bt fr)) : ExtM bt n u (u.freeze p k) := by
  obtain ⟨cs0, fr0, hb⟩ := hb
  unfold World.freeze
  split
  · exact ExtM.refl _ _ _
  · refine ⟨⟨rfl, rfl, rfl, by simp, fun j hj => ?_⟩, fun g cs t fr hg => ?_⟩
    · simp only [Array.getElem?_modify]
      rw [if_neg (by omega)]
    · simp only [Array.getElem?_modify]
      by_cases e : p.block = g
      · subst e
        rw [if_pos rfl, hg]
        rw [hb] at hg
        cases hg
        exact ⟨_, rfl, fun h => absurd rfl h⟩
      · rw [if_neg e]; exact ⟨fr, hg, fun _ => rfl⟩
theorem Byt.ofCells {w : World} {g : Nat} {l : List UInt8} {t : TypeId} {fr : Nat × Nat} (h : w.heap[g]? = some (.cells (l.map B).toArray t fr)) (hl : l.length ≤ maxLen) : Byt w (.slice (some ⟨g, 0, none⟩) l.length l.length) l :=
  .inr ⟨g, 0, l.length, rfl, Nat.le_refl _, hl, (Array.getElem?_eq_some_iff.1 h).1, fun i b hi => by simp [World.cell?, h, hi]⟩
theorem Byt.extM {bt : TypeId} {n : Nat} {w w' : World} {v : Value} {l : List UInt8} (h : Byt w v l) (e : ExtM bt n w w') : Byt w' v l := by
  rcases h with h | ⟨g, off, cap, rfl, h1, h2, h3, h4⟩
  · exact .inl h
  · exact .inr ⟨g, off, cap, rfl, h1, h2, Nat.lt_of_lt_of_le h3 e.below.size, fun i b hi => e.cell (h4 i b hi)⟩
theorem Blk.extM {bt : TypeId} {n : Nat} {w w' : World} {g : Nat} {cs : Array Value} {t : TypeId} (h : Blk w g cs t) (ht : t ≠ bt) (e : ExtM bt n w w') : Blk w' g cs t := by
  obtain ⟨fr, h', hf⟩ := e.keep g cs t (0, 0) h
  rw [hf ht] at h'
  exact h'
/-- A new slice of these bytes, in a row of bytes. -/
def FreshB (bt : TypeId) (n : Nat) (l : List UInt8) (v : Value) (u : World) : Prop := ∃ g c, v = .slice (some ⟨g, 0, none⟩) l.length c ∧ n ≤ g ∧ Byt u v l ∧ ∃ cs fr, u.heap[g]? = some (.cells cs bt fr)
theorem FreshB.mk {bt : TypeId} {n g c : Nat} {l : List UInt8} {u : World} (h2 : n ≤ g) (h3 : Byt u (.slice (some ⟨g, 0, none⟩) l.length c) l) (h4 : ∃ cs fr, u.heap[g]? = some (.cells cs bt fr)) : FreshB bt n l (.slice (some ⟨g, 0, none⟩) l.length c) u := ⟨g, c, rfl, h2, h3, h4⟩
theorem rowM {bt bt' : TypeId} {m : Nat} {g : Nat} {u u' : World} (h : ∃ cs fr, u.heap[g]? = some (.cells cs bt fr)) (e : ExtM bt' m u u') : ∃ cs fr, u'.heap[g]? = some (.cells cs bt fr) := by
  obtain ⟨cs, fr, h⟩ := h
  obtain ⟨fr', h', _⟩ := e.keep g cs bt fr h
  exact ⟨cs, fr', h'⟩
theorem FreshB.extM {bt bt' : TypeId} {n m : Nat} {l : List UInt8} {v : Value} {u u' : World} (h : FreshB bt n l v u) (e : ExtM bt' m u u') : FreshB bt n l v u' := by
  obtain ⟨g, c, h1, h2, h3, h4⟩ := h
  exact ⟨g, c, h1, h2, h3.extM e, rowM h4 e⟩
theorem streamB_length (key : List UInt8) (n : Nat) : (streamB key n).length = n := by
  rw [streamB, List.length_take, strm_length]; omega
theorem vals_ints (s : S8) : s.vals = ([U s.a, U s.b, U s.c, U s.d, U s.e, U s.f, U s.g, U s.h].map (.int .u32)).toArray := rfl
theorem r_eqlW {P : Program} {w : World} {ρ : Operand → Value} {d : Option Tmp} {ty t t' : TypeId} {pos : String} {aft : Array Edge} {g : Option (Nat × Bool)} {x y : Operand} (hA : ArrI P t 8 .u32) {s s' : S8} (hx : ρ x = .agg s.vals) (hy : ρ y = .agg s'.vals) :
    (execOp ρ ⟨d, .binOp .eql t x y t', ty, pos, aft, g⟩).run P w = .ok (.value (.bool ([U s.a, U s.b, U s.c, U s.d, U s.e, U s.f, U s.g, U s.h] == [U s'.a, U s'.b, U s'.c, U s'.d, U s'.e, U s'.f, U s'.g, U s'.h]))) w :=
  r_eqlA hA (by rw [hx, vals_ints]) (by rw [hy, vals_ints]) rfl rfl
theorem r_pickT {P : Program} {w : World} {ρ : Operand → Value} {d : Option Tmp} {ty : TypeId} {pos : String} {aft : Array Edge} {g : Option (Nat × Bool)} {x y z : Operand} {v : Value} (hx : ρ x = .bool true) (hy : ρ y = v) : (execOp ρ ⟨d, .pick x y z, ty, pos, aft, g⟩).run P w = .ok (.value v) w :=
  r_pick hx (by rw [if_pos rfl, hy])
end Go.Sp
namespace Go.Proofs.Ytbbpcgodjncflaa
open Go.RowKit Go.Sp
theorem arA35 : ArrI Try.prog 35 16 .u8 := ⟨⟨5, Try.underlying35, by kernel_rfl, by kernel_rfl, Try.underlying5⟩, by kernel_rfl⟩
theorem arA25 : ArrI Try.prog 25 8 .u32 := ⟨⟨24, Try.underlying25, by kernel_rfl, by kernel_rfl, Try.underlying24⟩, by kernel_rfl⟩
def convW (u : World) (b : Nat) : World := match u.shape? b with | none => u | some tn => u.freeze ⟨b, tn.2, none⟩ 1
theorem convW_ext {m : Nat} (u : World) {b : Nat} (hm : m ≤ b) (hb : ∃ cs fr, u.heap[b]? = some (.cells cs 5 fr)) : ExtM 5 m u (convW u b) := by
  unfold convW
  split
  · exact ExtM.refl _ _ _
  · exact freeze_ext _ _ _ _ hm hb
theorem r_conv29 {ρ : Operand → Value} {d ty pos aft g} {x : Operand} {b o n c : Nat} (u : World) (hx : ρ x = .slice (some ⟨b, o, none⟩) n c) :
    (execOp ρ ⟨d, .convert 29 29 x, ty, pos, aft, g⟩).run Try.prog u = .ok (.value (.slice (some ⟨b, o, none⟩) n c)) (convW u b) := by
  unfold convW
  cases hs : u.shape? b with
  | none => simp [execOp, hx, convert, run_underlying Try.underlying29, run_underlying Try.underlying5, markStringish, hs]
  | some tn => simp [execOp, hx, convert, run_underlying Try.underlying29, run_underlying Try.underlying5, markStringish, hs]
theorem r_buildB3 {ρ : Operand → Value} {d ty pos aft g} (x y z : UInt8) (u : World) (hc : ∀ v, ρ (.const v) = v) :
    (execOp ρ ⟨d, .buildSlice 29 3 #[(0, .const (B x)), (1, .const (B y)), (2, .const (B z))], ty, pos, aft, g⟩).run Try.prog u = .ok (.value (.slice (some ⟨u.heap.size, 0, none⟩) 3 3)) (u.alloc (.cells ([x, y, z].map B).toArray 5)) := by
  simp only [execOp]
  go_simp
theorem r_buildB1 {ρ : Operand → Value} {d ty pos aft g} (x : UInt8) (u : World) (hc : ∀ v, ρ (.const v) = v) :
    (execOp ρ ⟨d, .buildSlice 29 1 #[(0, .const (B x))], ty, pos, aft, g⟩).run Try.prog u = .ok (.value (.slice (some ⟨u.heap.size, 0, none⟩) 1 1)) (u.alloc (.cells ([x].map B).toArray 5)) := by
  simp only [execOp]
  go_simp
theorem r_build25 {ρ : Operand → Value} {d ty pos aft g} (u : World) :
    (execOp ρ ⟨d, .build 25 #[], ty, pos, aft, g⟩).run Try.prog u = .ok (.value (.agg S8.zero.vals)) u := by
  simp only [execOp]
  go_simp
  rfl
theorem pf26 : plainFn Try.prog 26 = true := by kernel_rfl
theorem pf22 : plainFn Try.prog 22 = true := by kernel_rfl
theorem pf23 : plainFn Try.prog 23 = true := by kernel_rfl
theorem pf28 : plainFn Try.prog 28 = true := by kernel_rfl
theorem pf16 : plainFn Try.prog 16 = true := by kernel_rfl
theorem pf17 : plainFn Try.prog 17 = true := by kernel_rfl
theorem pf29 : plainFn Try.prog 29 = true := by kernel_rfl
def ex15 (j : Nat) : Bool := !([6, 7, 12, 13, 14, 15, 19, 20, 32].contains j)
def V15 (n : Nat) : Nat → Value → World → Prop
  | 6, v, u => FreshB 5 n [97, 98, 99] v u
  | 7, v, u => FreshB 5 n [97, 98, 99] v u
  | 32, v, _ => ∃ a c, v = .slice a 20 c
  | _, v, u => FreshB 5 n [97] v u
theorem V15_mono (n m : Nat) (j : Nat) (v : Value) (u u' : World) (e : ExtM 5 m u u') (h : V15 n j v u) : V15 n j v u' := by
  unfold V15 at *
  split at h <;> first | exact h.extM e | exact h
set_option maxRecDepth 100000 in
set_option maxHeartbeats 2000000 in
theorem known_any (w : World) : Calls Try.prog 15 #[] w fun e w' => e = .returned (.bool true) ∧ Below w.heap.size w w' := by
  go_enter Try.func15, Try.ntmps15
  go_wp2_with fail
  refine (new_any _ [] _ (Byt.nil _) (by simp)).mono ?_
  rintro _ w1 ⟨p, wv, rfl, hpw, hb1, hB1, hY1, hN1⟩
  go_wp2_with fail
  refine (sum_any p _ wv [] w1 hB1 hY1 (by simp)).mono ?_
  rintro _ w2 ⟨rfl, hb2⟩
  have hsz16 : ((sumB (keyS []) []).map B).toArray.size = 16 := by simp [sumB_length]
  have HSZ := Lib.hid hsz16
  have HONE := Lib.hid (bytes_one (sumB (keyS []) []))
  have hOUT : ((sumB (keyS []) []).map B).toArray = ((macB [] []).map B).toArray := rfl
  generalize ((sumB (keyS []) []).map B).toArray = OUT at *
  have HOUT := Lib.hid hOUT
  clear hOUT hsz16
  go_wp2_with (refine (show wpList _ _ _ (⟨none, .store 35 (.tmp 2) (.tmp 7), _, _, _, _⟩ :: _) _ _ from stop_here ?_))
  refine Stop.go (wpList_store_blk rfl rfl rfl rfl (Blk.new w2 _ 35) (by rw [HSZ.out]; rfl) (by rw [HSZ.out]; kernel_rfl) HONE.out ?_)
  intro w3 hR3 hO3
  have hb3 : Below w1.heap.size w1 w3 := (hb2.trans (((Below.refl _ _).alloc hb2.size _))).trans (hO3.below hb2.size (by have := hb2.size; simp; omega))
  have hB3 := hB1.ext hb3
  have hY3 := hY1.ext hb3
  have hbw3 := hb1.trans (hb3.mono hb1.size)
  have hpq : p ≠ w2.heap.size := by have := hB1.lt; have := hb2.size; omega
  clear hB1 hY1 hb1 hb2 hb3 hO3
  have kc := fun (w : World) (C : Array Value) (n c : Nat) => Lib.run_convert_bytes_const (P := Try.prog) w 29 5 C n c Try.underlying29 Try.underlying5
  go_wp2_with fail
  refine (write_any p _ wv _ [] [97, 98, 99] _ (hB3.alloc _) (hY3.ext ((Below.refl _ _).alloc (Nat.le_refl _) _)) (Byt.ofCells (l := [97, 98, 99]) (World.alloc_heap_new w3 _) (by simp [maxLen])) (by simp)).mono ?_
  rintro _ w4 ⟨rfl, hO4, wv4, hB4, hY4, hN4, _⟩
  have hR4 := (hR3.alloc (.cells #[.int .u8 97, .int .u8 98, .int .u8 99] 5 (3, 4))).only hO4 (Ne.symm hpq)
  have hbw4 : Below w.heap.size w w4 := (hbw3.alloc hbw3.size _).trans (hO4.below hpw (by have := hbw3.size; simp; omega))
  clear hB3 hY3 hR3 hbw3 hO4 kc
  obtain ⟨L0, hL0⟩ : ∃ L, L = macB [] [] := ⟨_, rfl⟩
  obtain ⟨L1, hL1⟩ : ∃ L, L = rawB [] [97, 98, 99] := ⟨_, rfl⟩
  have h16 : L0.length = 16 := by rw [hL0, macB_length]
  have h16' : L1.length = 16 := by rw [hL1, rawB_length]
  have hsum : sumB (absAll (keyS []) ([] ++ [97, 98, 99])).1 (absAll (keyS []) ([] ++ [97, 98, 99])).2 = L1 := by
    have := sumB_abs (keyS []) [97, 98, 99] []
    rw [List.append_nil, List.append_nil] at this
    rw [hL1, rawB_eq]; exact this
  have hw16 : (absAll (keyS []) ([] ++ [97, 98, 99])).2.length < 16 := by rw [absAll_waits]; simp
  rw [HOUT.out, ← hL0] at hR4
  have HS := Lib.hid hsum
  have HW := Lib.hid hw16
  have H0 := Lib.hid hL0
  have H1 := Lib.hid hL1
  have HL0 := Lib.hid h16
  have hi16 : (Try.prog.info? 35).map (·.size) = some (L0.map B).toArray.size := by
    rw [show (L0.map B).toArray.size = 16 by simp [h16]]; kernel_rfl
  have HI := Lib.hid hi16
  have HL1 := Lib.hid h16'
  clear hsum hw16 hL0 hL1 h16 h16' hi16
  generalize (absAll (keyS []) ([] ++ [97, 98, 99])) = AB at *
  go_wp2
  have n4 := hbw4.size
  refine wp_region_VE (bt := 5) ex15 (fun j => (lookL [.agg (L0.map B).toArray, .agg (L0.map B).toArray, .bool true, .bool true, .pointer (some ⟨p, 0, none⟩), .agg (L1.map B).toArray, undef, undef, .agg (L1.map B).toArray, .bool true, .bool true, .bool true, undef, undef, undef, undef, .bool true, .bool true, .bool true, undef, undef, .bool false, .bool true, .bool true, .bool true, .agg S8.zero.vals, .agg (mix S8.zero).vals, .agg S8.zero.vals, .agg (mix S8.zero).vals, .bool true, .bool true, .bool true, undef, .int .i64 20, .bool true, .bool true, .bool true] j).getD undef) (V15 w4.heap.size) (by kernel_rfl) (by kernel_rfl) (by kernel_rfl) (V15_mono _ _) fun x => ?_
  have hx : ∀ {u u' : World}, ExtM 5 w4.heap.size w4 u → Below u.heap.size u u' → ExtM 5 w4.heap.size u u' := fun h k => ExtM.of k h.below.size
  refine VE_call (v := .agg (L0.map B).toArray) (f := 26) (args := #[.slice none 0 0]) rfl rfl rfl (fun u => r_call pf26 (map1 rho_const) rfl) (fun u hu hf => ?_) ?_
  · refine (of_any _ [] u (Lst.nil _) (by simp)).mono ?_
    rintro _ u' ⟨rfl, hb⟩
    exact ⟨by rw [H0.out], hx hu hb⟩
  refine VE_ex (v := .agg (L0.map B).toArray) rfl rfl rfl (fun u hu hf => r_loadBlk (rho_base rfl rfl) (hR4.ext hu.below) Try.underlying35 rfl HI.out) ?_
  refine VE_ex (v := .bool true) rfl rfl rfl (fun u hu hf => (r_eqlB arA35 (rho_env rfl) (rho_env rfl) HL0.out HL0.out).trans (by simp)) ?_
  refine VE_ex (v := .bool true) rfl rfl rfl (fun u hu hf => r_move (rho_env rfl)) ?_
  refine VE_ex (v := .pointer (some ⟨p, 0, none⟩)) rfl rfl rfl (fun u hu hf => r_move (rho_base rfl rfl)) ?_
  refine VE_call (v := .agg (L1.map B).toArray) (f := 22) (args := #[.pointer (some ⟨p, 0, none⟩)]) rfl rfl rfl (fun u => r_call pf22 (map1 (rho_env rfl)) rfl) (fun u hu hf => ?_) ?_
  · refine (sum_any p _ wv4 _ u (hB4.ext hu.below) (hY4.extM hu) HW.out).mono ?_
    rintro _ u' ⟨rfl, hb⟩
    exact ⟨by rw [HS.out], hx hu hb⟩
  refine VE_any rfl rfl (fun u hu hf => ⟨_, _, r_buildB3 97 98 99 u (fun _ => rfl), hx hu ((Below.refl _ _).alloc (Nat.le_refl _) _), FreshB.mk (g := u.heap.size) (c := 3) hu.below.size (Byt.ofBlk (l := [97, 98, 99]) (Blk.new u _ 5) (by simp [maxLen])) ⟨_, _, Blk.new u _ 5⟩⟩) ?_
  refine VE_any rfl rfl (fun u hu hf => ?_) ?_
  · obtain ⟨g, c, h1, h2, h3, h4⟩ := hf 6 rfl (by decide) rfl
    exact ⟨_, _, r_conv29 u ((rho_env rfl).trans h1), convW_ext u h2 h4, FreshB.mk h2 ((h1 ▸ h3).extM (convW_ext u h2 h4)) (rowM h4 (convW_ext u h2 h4))⟩
  refine VE_call (v := .agg (L1.map B).toArray) (f := 23) (args := #[.slice none 0 0, x 7]) rfl rfl rfl (fun u => r_call pf23 (map2 rho_const (rho_env rfl)) rfl) (fun u hu hf => ?_) ?_
  · obtain ⟨g, c, h1, h2, h3, h4⟩ := hf 7 rfl (by decide) rfl
    refine (raw_any _ (x 7) [] [97, 98, 99] u (Byt.nil _) h3 (by simp) (by simp)).mono ?_
    rintro _ u' ⟨rfl, hb⟩
    exact ⟨by rw [H1.out], hx hu hb⟩
  refine VE_ex (v := .bool true) rfl rfl rfl (fun u hu hf => (r_eqlB arA35 (rho_env rfl) (rho_env rfl) HL1.out HL1.out).trans (by simp)) ?_
  refine VE_ex (v := .bool true) rfl rfl rfl (fun u hu hf => r_pickT (rho_env rfl) (rho_env rfl)) ?_
  refine VE_ex (v := .bool true) rfl rfl rfl (fun u hu hf => r_move (rho_env rfl)) ?_
  refine VE_any rfl rfl (fun u hu hf => ⟨_, _, r_buildB1 97 u (fun _ => rfl), hx hu ((Below.refl _ _).alloc (Nat.le_refl _) _), FreshB.mk (g := u.heap.size) (c := 1) hu.below.size (Byt.ofBlk (l := [97]) (Blk.new u _ 5) (by simp [maxLen])) ⟨_, _, Blk.new u _ 5⟩⟩) ?_
  refine VE_any rfl rfl (fun u hu hf => ?_) ?_
  · obtain ⟨g, c, h1, h2, h3, h4⟩ := hf 12 rfl (by decide) rfl
    exact ⟨_, _, r_conv29 u ((rho_env rfl).trans h1), convW_ext u h2 h4, FreshB.mk h2 ((h1 ▸ h3).extM (convW_ext u h2 h4)) (rowM h4 (convW_ext u h2 h4))⟩
  refine VE_any rfl rfl (fun u hu hf => ⟨_, _, r_buildB1 97 u (fun _ => rfl), hx hu ((Below.refl _ _).alloc (Nat.le_refl _) _), FreshB.mk (g := u.heap.size) (c := 1) hu.below.size (Byt.ofBlk (l := [97]) (Blk.new u _ 5) (by simp [maxLen])) ⟨_, _, Blk.new u _ 5⟩⟩) ?_
  refine VE_any rfl rfl (fun u hu hf => ?_) ?_
  · obtain ⟨g, c, h1, h2, h3, h4⟩ := hf 14 rfl (by decide) rfl
    exact ⟨_, _, r_conv29 u ((rho_env rfl).trans h1), convW_ext u h2 h4, FreshB.mk h2 ((h1 ▸ h3).extM (convW_ext u h2 h4)) (rowM h4 (convW_ext u h2 h4))⟩
  refine VE_call (v := .bool true) (f := 28) (args := #[x 13, x 15]) rfl rfl rfl (fun u => r_call pf28 (map2 (rho_env rfl) (rho_env rfl)) rfl) (fun u hu hf => ?_) ?_
  · obtain ⟨g, c, h1, h2, h3, h4⟩ := hf 13 rfl (by decide) rfl
    obtain ⟨g', c', h1', h2', h3', _⟩ := hf 15 rfl (by decide) rfl
    refine (same_any _ _ [97] [97] u h3 h3' (by simp)).mono ?_
    rintro _ u' ⟨rfl, hb⟩
    exact ⟨rfl, hx hu hb⟩
  refine VE_ex (v := .bool true) rfl rfl rfl (fun u hu hf => r_pickT (rho_env rfl) (rho_env rfl)) ?_
  refine VE_ex (v := .bool true) rfl rfl rfl (fun u hu hf => r_move (rho_env rfl)) ?_
  refine VE_any rfl rfl (fun u hu hf => ⟨_, _, r_buildB1 97 u (fun _ => rfl), hx hu ((Below.refl _ _).alloc (Nat.le_refl _) _), FreshB.mk (g := u.heap.size) (c := 1) hu.below.size (Byt.ofBlk (l := [97]) (Blk.new u _ 5) (by simp [maxLen])) ⟨_, _, Blk.new u _ 5⟩⟩) ?_
  refine VE_any rfl rfl (fun u hu hf => ?_) ?_
  · obtain ⟨g, c, h1, h2, h3, h4⟩ := hf 19 rfl (by decide) rfl
    exact ⟨_, _, r_conv29 u ((rho_env rfl).trans h1), convW_ext u h2 h4, FreshB.mk h2 ((h1 ▸ h3).extM (convW_ext u h2 h4)) (rowM h4 (convW_ext u h2 h4))⟩
  refine VE_call (v := .bool false) (f := 28) (args := #[x 20, .slice none 0 0]) rfl rfl rfl (fun u => r_call pf28 (map2 (rho_env rfl) rho_const) rfl) (fun u hu hf => ?_) ?_
  · obtain ⟨g, c, h1, h2, h3, h4⟩ := hf 20 rfl (by decide) rfl
    refine (same_any _ _ [97] [] u h3 (Byt.nil _) (by simp)).mono ?_
    rintro _ u' ⟨rfl, hb⟩
    exact ⟨rfl, hx hu hb⟩
  refine VE_ex (v := .bool true) rfl rfl rfl (fun u hu hf => r_not (a := false) (rho_env rfl)) ?_
  refine VE_ex (v := .bool true) rfl rfl rfl (fun u hu hf => r_pickT (rho_env rfl) (rho_env rfl)) ?_
  refine VE_ex (v := .bool true) rfl rfl rfl (fun u hu hf => r_move (rho_env rfl)) ?_
  refine VE_ex (v := .agg S8.zero.vals) rfl rfl rfl (fun u hu hf => r_build25 u) ?_
  refine VE_call (v := .agg (mix S8.zero).vals) (f := 16) (args := #[.agg S8.zero.vals]) rfl rfl rfl (fun u => r_call pf16 (map1 (rho_env rfl)) rfl) (fun u hu hf => ?_) ?_
  · refine (mix_any S8.zero u).mono ?_
    rintro _ u' ⟨rfl, hb⟩
    exact ⟨rfl, hx hu hb⟩
  refine VE_ex (v := .agg S8.zero.vals) rfl rfl rfl (fun u hu hf => r_build25 u) ?_
  refine VE_call (v := .agg (mix S8.zero).vals) (f := 17) (args := #[.agg S8.zero.vals]) rfl rfl rfl (fun u => r_call pf17 (map1 (rho_env rfl)) rfl) (fun u hu hf => ?_) ?_
  · refine (rmix_any S8.zero u).mono ?_
    rintro _ u' ⟨rfl, hb⟩
    exact ⟨rfl, hx hu hb⟩
  refine VE_ex (v := .bool true) rfl rfl rfl (fun u hu hf => (r_eqlW arA25 (rho_env rfl) (rho_env rfl)).trans (by simp)) ?_
  refine VE_ex (v := .bool true) rfl rfl rfl (fun u hu hf => r_pickT (rho_env rfl) (rho_env rfl)) ?_
  refine VE_ex (v := .bool true) rfl rfl rfl (fun u hu hf => r_move (rho_env rfl)) ?_
  refine VE_callp (f := 29) (args := #[.slice none 0 0, .int .i64 20]) rfl rfl (fun u => r_call pf29 (map2 rho_const rho_const) rfl) (fun u hu hf => ?_) ?_
  · refine (stream_yes none 0 [] 20 (by decide) (by decide) u (Byt.nil _) (by simp)).mono ?_
    rintro _ u' ⟨v', rfl, ho, hb⟩
    obtain ⟨a, c, rfl, _, _⟩ := ho.byt.len
    rw [streamB_length]
    exact ⟨_, rfl, hx hu hb, a, c, rfl⟩
  refine VE_ex (v := .int .i64 20) rfl rfl rfl (fun u hu hf => ?_) ?_
  · obtain ⟨a, c, h1⟩ := hf 32 rfl (by decide) rfl
    exact r_lenSl ((rho_env rfl : rhoE _ _ _ = x 32).trans h1) Try.underlying29
  refine VE_ex (v := .bool true) rfl rfl rfl (fun u hu hf => (r_eqlI (a := 20) (b := 20) (rho_env rfl) rho_const).trans (by simp)) ?_
  refine VE_ex (v := .bool true) rfl rfl rfl (fun u hu hf => r_pickT (rho_env rfl) (rho_env rfl)) ?_
  refine VE_ex (v := .bool true) rfl rfl rfl (fun u hu hf => r_assign (rho_env rfl)) ?_
  refine VE_nil fun u hu _ => ?_
  rw [withEnv_norm (rfl : setsL _ 0 _ = [_, _, _, _, _, _, _, _, _, _, _, _, _, _, _, _, _, _, _, _, _, _, _, _, _, _, _, _, _, _, _, _, _, _, _, _, _, _, _, _, _, _, _, _, _, _, _, _])]
  have hbu := hbw4.trans (hu.below.mono n4)
  clear hR4 hB4 hY4 hbw4 hx
  go_wp2
  go_ret
  exact ⟨rfl, hbu⟩
end Go.Proofs.Ytbbpcgodjncflaa
