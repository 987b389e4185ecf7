/-
  A part of the proofs of this seat: laws of the walk, or contracts of the functions that the statements reach. No conditions but those that each theorem names.
-/
import Derived.ScopeJumps
import Derived.WalkMore
import Derived.Lib.ConvBytes
import Derived.Test.YthpjihiikkhcjaaGf
namespace Go.Sp
open Go.RowKit
/-- One byte more of a number. -/
def stp (m : Int) (y : UInt8) : Int := bits .or .i64 (wrap64 (m * 256)) (y.toNat : Int)
/-- The number that bytes are. -/
def numB (l : List UInt8) : Int := l.foldl stp 0
theorem numB_take (l : List UInt8) (k : Nat) (y : UInt8) (h : l[k]? = some y) : numB (l.take (k + 1)) = stp (numB (l.take k)) y := by
  unfold numB
  rw [List.take_add_one, h, List.foldl_append]; rfl
/-- May these bytes be a name? -/
def namedM (l : List UInt8) : Bool := (l.all fun y => decide (33 ≤ y.toNat ∧ y.toNat ≤ 126)) && decide (1 ≤ l.length ∧ l.length ≤ 16)
end Go.Sp
namespace Go.Proofs.Ythpjihiikkhcjaa
open Go.RowKit Go.Sp
set_option maxHeartbeats 2000000 in
theorem gnumber_any (v : Value) (l : List UInt8) (w : World) (hv : Byt w v l) (hl : l.length ≤ 100) :
    Calls Try.prog 40 #[v] w fun e w' => e = .returned (.int .i64 (numB l)) ∧ Below w.heap.size w w' := by
  have HV := Lib.hid hv
  obtain ⟨va, vc, rfl, hvc, hvm⟩ := hv.len
  unfold maxLen at hvm
  go_enter Try.func40, Try.ntmps40
  go_wp2
  go_loopw [8, 3] (fun i n wr => ∃ (k : Nat) (m : Int), k ≤ l.length ∧ i = .int .i64 k ∧ n = .int .i64 m ∧ m = numB (l.take k) ∧ Below w.heap.size w wr) (fun i _ _ => (l.length - intOf i).toNat)
  case atStart => exact ⟨0, 0, by omega, rfl, rfl, rfl, Below.refl _ _⟩
  case round =>
    obtain ⟨k, m, hk, rfl, rfl, hm, hbw⟩ := hrel
    have HM := Lib.hid hm
    clear hm
    by_cases hlt : k < l.length
    · have hlt' : (k : Int) < (l.length : Int) := by omega
      have hk0 : (0 : Int) ≤ k := by omega
      obtain ⟨y, hy⟩ : ∃ y, l[k]? = some y := ⟨_, List.getElem?_eq_getElem hlt⟩
      rcases HV.out with ⟨_, h0⟩ | ⟨g, off, cap, he, _, _, hg, hc⟩
      · rw [h0] at hy; cases hy
      simp only [Value.slice.injEq, true_and] at he
      obtain ⟨rfl, rfl⟩ := he
      have hcy : wr.cell? ⟨g, off + k, none⟩ = some (B y) := (World.cell?_of_block (a := ⟨g, off + k, none⟩) (hbw.block g hg)).trans (hc k y hy)
      have HS := Lib.hid (numB_take l k y hy)
      clear hc hy
      go_wp2
      go_roundw
      case rel => exact ⟨k + 1, _, by omega, by go_num, rfl, by rw [HS.out, ← HM.out]; rfl, hbw⟩
      case measure => simp [intOf]; omega
    · obtain rfl : k = l.length := by omega
      go_wp2
      go_ret
      exact ⟨by rw [HM.out, List.take_length]; rfl, hbw⟩
theorem pf40 : plainFn Try.prog 40 = true := by kernel_rfl
def J41 (l : List UInt8) (w : World) (a : Act) (w' : World) : Prop :=
  w' = w ∧ ∃ (k : Nat) (u4 u5 u6 u7 u8 u9 u10 u11 u12 u13 u14 u15 u16 u17 u18 u19 u20 u21 u22 u23 u24 u25 u26 u27 u28 u29 u30 u31 u32 u33 : Value), k ≤ l.length ∧ (∀ i y, i < k → l[i]? = some y → 33 ≤ y.toNat ∧ y.toNat ≤ 126) ∧ a = { tmps := #[.string ⟨l.toArray⟩, undef, .bool false, .int .i64 k, u4, u5, u6, u7, u8, u9, u10, u11, u12, u13, u14, u15, u16, u17, u18, u19, u20, u21, u22, u23, u24, u25, u26, u27, u28, u29, u30, u31, u32, u33], defers := [] }
theorem named_false (l : List UInt8) (k : Nat) (h : k < l.length) (hb : ¬ (33 ≤ l[k].toNat ∧ l[k].toNat ≤ 126)) : namedM l = false := by
  unfold namedM
  have : (l.all fun y => decide (33 ≤ y.toNat ∧ y.toNat ≤ 126)) = false := by
    rw [List.all_eq_false]
    exact ⟨l[k], List.getElem_mem h, by simpa using hb⟩
  rw [this]; rfl
theorem named_true (l : List UInt8) (h : ∀ i y, i < l.length → l[i]? = some y → 33 ≤ y.toNat ∧ y.toNat ≤ 126) : namedM l = decide (1 ≤ l.length ∧ l.length ≤ 16) := by
  unfold namedM
  have : (l.all fun y => decide (33 ≤ y.toNat ∧ y.toNat ≤ 126)) = true := by
    rw [List.all_eq_true]
    intro y hy
    obtain ⟨i, hi, rfl⟩ := List.getElem_of_mem hy
    simpa using h i _ hi (List.getElem?_eq_getElem hi)
  rw [this]; rfl
set_option maxHeartbeats 4000000 in
theorem named_any (l : List UInt8) (w : World) (hl : l.length ≤ 1000000) :
    Calls Try.prog 41 #[.string ⟨l.toArray⟩] w fun e w' => e = .returned (.bool (namedM l)) ∧ w' = w := by
  obtain ⟨R, hR⟩ : ∃ R, R = namedM l := ⟨_, rfl⟩
  rw [← hR]
  have HR := Lib.hid hR
  clear hR
  go_enter Try.func41, Try.ntmps41
  go_wp2
  refine (fun (hp : ∀ a w', J41 l w a w' → Code.wp Try.prog _ (Exit.jump 0 (fun a'' w'' => J41 l w a'' w'' ∧ (l.length - intOf (a''.tmps.getD 3 undef)).toNat < (l.length - intOf (a.tmps.getD 3 undef)).toNat) _) a w') => wp_scope_jumps (rest := Code.skip.seq _) 0 (J41 l w) (fun a' _ => (l.length - intOf (a'.tmps.getD 3 undef)).toNat) rfl ?_ (fun a w' h => wp_seq (wp_skip (hp a w' h)))) ?_
  · go_wp2
    go_step3
    rename_i K hK
    simp only [Exit.then]
    refine hK _ _ ?_
    refine wp_mono (hp { tmps := #[.string ⟨l.toArray⟩, undef, .bool false, .int .i64 0, undef, undef, undef, undef, undef, undef, undef, undef, undef, undef, undef, undef, undef, undef, undef, undef, undef, undef, undef, undef, undef, undef, undef, undef, undef, undef, undef, undef, undef, undef], defers := [] } w ⟨rfl, 0, _, _, _, _, _, _, _, _, _, _, _, _, _, _, _, _, _, _, _, _, _, _, _, _, _, _, _, _, _, _, Nat.zero_le _, fun i y hi => by omega, rfl⟩) fun e a1 w1 h => ?_
    cases e <;> first | exact h | exact ⟨h.1, h.2.1⟩
  · rintro a' w' ⟨rfl, k, u4, u5, u6, u7, u8, u9, u10, u11, u12, u13, u14, u15, u16, u17, u18, u19, u20, u21, u22, u23, u24, u25, u26, u27, u28, u29, u30, u31, u32, u33, hk, hall, rfl⟩
    have hsz : (⟨l.toArray⟩ : ByteArray).size = l.length := rfl
    have HALL := Lib.hid hall
    clear hall
    by_cases hlt : k < l.length
    · have hlt' : (k : Int) < (l.length : Int) := by omega
      have hne : ((k : Int) == (l.length : Int)) = false := by simp; omega
      by_cases h1 : (33 : Int) ≤ ((⟨l.toArray⟩ : ByteArray)[k]'hlt).toNat
      · by_cases h2 : (((⟨l.toArray⟩ : ByteArray)[k]'hlt).toNat : Int) ≤ 126
        · have hall' : ∀ i y, i < k + 1 → l[i]? = some y → 33 ≤ y.toNat ∧ y.toNat ≤ 126 := fun i y hi hy => by
            by_cases e : i = k
            · subst e
              rw [List.getElem?_eq_getElem hlt] at hy
              cases hy
              have e1 : ((⟨l.toArray⟩ : ByteArray)[i]'hlt) = l[i] := rfl
              rw [e1] at h1 h2
              omega
            · exact HALL.out i y (by omega) hy
          have HALL' := Lib.hid hall'
          clear hall'
          go_wp2
          go_step3
          refine ⟨rfl, ⟨rfl, k + 1, _, _, _, _, _, _, _, _, _, _, _, _, _, _, _, _, _, _, _, _, _, _, _, _, _, _, _, _, _, _, by omega, HALL'.out, by simp only [Int.natCast_add, Int.natCast_one]; rfl⟩, by simp [intOf]; omega⟩
        · have hf : R = false := by rw [HR.out]; exact named_false l k hlt (fun h => h2 (by have e1 : ((⟨l.toArray⟩ : ByteArray)[k]'hlt) = l[k] := rfl; rw [e1]; omega))
          have HF := Lib.hid hf
          clear hf
          go_wp2
          simp only [Exit.jump]
          go_ret
          exact ⟨by rw [HF.out]; rfl, rfl⟩
      · have hf : R = false := by rw [HR.out]; exact named_false l k hlt (fun h => h1 (by have e1 : ((⟨l.toArray⟩ : ByteArray)[k]'hlt) = l[k] := rfl; rw [e1]; omega))
        have HF := Lib.hid hf
        clear hf
        go_wp2
        simp only [Exit.jump]
        go_ret
        exact ⟨by rw [HF.out]; rfl, rfl⟩
    · obtain rfl : k = l.length := by omega
      have HT : Hid (R = decide (1 ≤ l.length ∧ l.length ≤ 16)) := Lib.hid (by rw [HR.out]; exact named_true l HALL.out)
      by_cases h3 : (1 : Int) ≤ (l.length : Int)
      · by_cases h4 : (l.length : Int) ≤ 16
        · have HF : Hid (R = true) := Lib.hid (by rw [HT.out]; simp; omega)
          go_wp2
          simp only [Exit.jump]
          go_ret
          exact ⟨by rw [HF.out]; rfl, rfl⟩
        · have HF : Hid (R = false) := Lib.hid (by rw [HT.out]; simp; omega)
          go_wp2
          simp only [Exit.jump]
          go_ret
          exact ⟨by rw [HF.out]; rfl, rfl⟩
      · have HF : Hid (R = false) := Lib.hid (by rw [HT.out]; simp; omega)
        go_wp2
        simp only [Exit.jump]
        go_ret
        exact ⟨by rw [HF.out]; rfl, rfl⟩
theorem pf41 : plainFn Try.prog 41 = true := by kernel_rfl
end Go.Proofs.Ythpjihiikkhcjaa
namespace Go.Sp
open Go.RowKit
/-- A word as bytes, the highest first. -/
def be (x : UInt32) : List UInt8 := [(shr x 24).toUInt8, (shr x 16).toUInt8, (shr x 8).toUInt8, x.toUInt8]
theorem shr_b8 (m d : Int) (k : Nat) (z : Int) (hk : k = 0 ∨ k = 8 ∨ k = 16 ∨ k = 24) (h : z / 2 ^ k = d) (hz : z = m) : (shr (w32 m) k).toUInt8 = b8 d := by
  subst hz h
  have h1 := UInt32.ofInt_toNat z
  have h2 := UInt8.ofInt_toNat (z / 2 ^ k)
  rw [← UInt8.toNat_inj, UInt32.toNat_toUInt8]
  unfold shr b8 w32 at *
  rw [UInt32.toNat_ofNat']
  generalize (UInt32.ofInt z).toNat = a at *
  generalize (UInt8.ofInt (z / 2 ^ k)).toNat = b at *
  rcases hk with rfl | rfl | rfl | rfl
  all_goals
    simp only [Nat.reducePow, Int.reducePow] at *
    omega
theorem be_eight (n : Int) : be (w32 (n / 4294967296)) ++ be (w32 n) = eight n := by
  have h0 : ∀ m : Int, (w32 m).toUInt8 = (shr (w32 m) 0).toUInt8 := fun m => by
    unfold shr; simp
  have e : eight n = [b8 (n / 2 ^ 56), b8 (n / 2 ^ 48), b8 (n / 2 ^ 40), b8 (n / 2 ^ 32), b8 (n / 2 ^ 24), b8 (n / 2 ^ 16), b8 (n / 2 ^ 8), b8 (n / 2 ^ 0)] := rfl
  rw [e]
  unfold be
  rw [h0, h0]
  rw [shr_b8 (n / 4294967296) (n / 2 ^ 56) 24 _ (by simp) (by omega) rfl, shr_b8 (n / 4294967296) (n / 2 ^ 48) 16 _ (by simp) (by omega) rfl, shr_b8 (n / 4294967296) (n / 2 ^ 40) 8 _ (by simp) (by omega) rfl, shr_b8 (n / 4294967296) (n / 2 ^ 32) 0 _ (by simp) (by omega) rfl,
    shr_b8 n (n / 2 ^ 24) 24 _ (by simp) rfl rfl, shr_b8 n (n / 2 ^ 16) 16 _ (by simp) rfl rfl, shr_b8 n (n / 2 ^ 8) 8 _ (by simp) rfl rfl, shr_b8 n (n / 2 ^ 0) 0 _ (by simp) rfl rfl]
  rfl
def S8.wd (s : S8) (i : Nat) : UInt32 := ([s.a, s.b, s.c, s.d, s.e, s.f, s.g, s.h] : List UInt32).getD i 0
/-- The first j words from the highest down, as bytes. -/
def beL (s : S8) (j : Nat) : List UInt8 := (List.range j).flatMap fun i => be (s.wd (7 - i))
theorem beL_succ (s : S8) (j : Nat) : beL s (j + 1) = beL s j ++ be (s.wd (7 - j)) := by simp [beL, List.range_succ]
theorem beL_length (s : S8) : ∀ j : Nat, (beL s j).length = 4 * j
  | 0 => rfl
  | j + 1 => by rw [beL_succ, List.length_append, beL_length s j]; simp [be]; omega
theorem S8.wd_get (s : S8) (i : Nat) (h : i < 8) : s.vals[i]? = some (W (s.wd i)) := by
  obtain rfl | rfl | rfl | rfl | rfl | rfl | rfl | rfl : i = 0 ∨ i = 1 ∨ i = 2 ∨ i = 3 ∨ i = 4 ∨ i = 5 ∨ i = 6 ∨ i = 7 := by omega
  all_goals rfl
theorem Byt.recap {w : World} {a : Option Addr} {n c : Nat} {l : List UInt8} (h : Byt w (.slice a n c) l) (hl : l.length = n) (h0 : 0 < n) : Byt w (.slice a n n) l := by
  rcases h with ⟨h, rfl⟩ | ⟨g, off, cap, hv, h1, h2, h3, h4⟩
  · simp at hl; omega
  · simp only [Value.slice.injEq] at hv
    obtain ⟨rfl, _, rfl⟩ := hv
    exact .inr ⟨g, off, n, by rw [hl], by omega, by omega, h3, h4⟩
theorem r_convWB {ρ : Operand → Value} {d : Option Tmp} {t t' ty : TypeId} {pos : String} {aft : Array Edge} {g : Option (Nat × Bool)} {x : Operand} {P : Program} {w : World} {a : UInt32} (hx : ρ x = W a) (hs : (P.underlying t).isSome = true) (hd : P.underlying t' = some (.int .u8)) : (execOp ρ ⟨d, .convert t t' x, ty, pos, aft, g⟩).run P w = .ok (.value (B a.toUInt8)) w :=
  r_conv hx (run_convert_W_u8 w t t' a hs hd)
end Go.Sp
namespace Go.Proofs.Ythpjihiikkhcjaa
open Go.RowKit Go.Sp
set_option maxRecDepth 100000 in
set_option maxHeartbeats 2000000 in
theorem from_any (n : Int) (w : World) (hn : 0 ≤ n ∧ n ≤ 9223372036854775807) :
    Calls Try.prog 51 #[.int .i64 n] w fun e w' => e = .returned (.agg (S8.mk (w32 n) (w32 (n / 4294967296)) 0 0 0 0 0 0).vals) ∧ Below w.heap.size w w' := by
  have h0 : ¬ n < 0 := by omega
  go_enter Try.func51, Try.ntmps51
  go_wp2
  exact bodyPost_ret (results_cell_row rfl _ _ w.heap.size 26 _ (0, 0) _ rfl ((Blk.new w _ 26).alloc _) Try.underlying26 rfl (by kernel_rfl)) rfl ⟨rfl, ((Below.refl _ _).alloc (Nat.le_refl _) _).alloc (by simp) _⟩
theorem from_neg (n : Int) (w : World) (hn : n < 0) :
    Calls Try.prog 51 #[.int .i64 n] w fun e w' => e = .returned (.agg S8.zero.vals) ∧ Below w.heap.size w w' := by
  go_enter Try.func51, Try.ntmps51
  go_wp2
  exact bodyPost_ret (results_cell_row rfl _ _ w.heap.size 26 _ (0, 0) _ rfl ((Blk.new w _ 26).alloc _) Try.underlying26 rfl (by kernel_rfl)) rfl ⟨rfl, ((Below.refl _ _).alloc (Nat.le_refl _) _).alloc (by simp) _⟩
theorem ar26 : arrOf Try.prog 26 = some 8 := by kernel_rfl
theorem r_buildB4 {ρ : Operand → Value} {d ty pos aft g} {p q r t : Operand} {x y z u4 : UInt8} (u : World) (h1 : ρ p = B x) (h2 : ρ q = B y) (h3 : ρ r = B z) (h4 : ρ t = B u4) :
    (execOp ρ ⟨d, .buildSlice 23 4 #[(0, p), (1, q), (2, r), (3, t)], ty, pos, aft, g⟩).run Try.prog u = .ok (.value (.slice (some ⟨u.heap.size, 0, none⟩) 4 4)) (u.alloc (.cells ([x, y, z, u4].map B).toArray 5)) := by
  simp only [execOp]
  go_simp
def hd50 (i : Nat) : Bool := !([20, 21, 22].contains i)
def S50 (w : World) (s : S8) (o : Value) (l x : List UInt8) : List Value → World → Prop
  | [], u => Blk u w.heap.size s.vals 26 ∧ Below w.heap.size w u ∧ Sp.Own 5 (w.heap.size + 1) u o l
  | [b], u => Blk u w.heap.size s.vals 26 ∧ Below w.heap.size w u ∧ Sp.Own 5 (w.heap.size + 1) u o l ∧ Byt u b x
  | [_, v], u => Blk u w.heap.size s.vals 26 ∧ Below w.heap.size w u ∧ Sp.Own 5 (w.heap.size + 1) u v (l ++ x)
  | [_, v, v2], u => Blk u w.heap.size s.vals 26 ∧ Below w.heap.size w u ∧ Sp.Own 5 (w.heap.size + 1) u v (l ++ x) ∧ v2 = v
  | _, _ => False
set_option maxRecDepth 100000 in
set_option maxHeartbeats 4000000 in
theorem bytes_any (s : S8) (w : World) :
    Calls Try.prog 50 #[.agg s.vals] w fun e w' => ∃ a, e = .returned (.slice a 32 32) ∧ Byt w' (.slice a 32 32) (beL s 8) ∧ Below w.heap.size w w' := by
  have hv : s.vals = #[W s.a, W s.b, W s.c, W s.d, W s.e, W s.f, W s.g, W s.h] := rfl
  have hR : Blk (w.alloc (.cells s.vals 26)) w.heap.size s.vals 26 := Blk.new w _ 26
  have hb : Below w.heap.size w (w.alloc (.cells s.vals 26)) := (Below.refl _ _).alloc (Nat.le_refl _) _
  have hsz : (w.alloc (.cells s.vals 26)).heap.size = w.heap.size + 1 := by simp
  rw [hv]
  go_enter Try.func50, Try.ntmps50
  go_wp2_with (at_make; refine stop_here ?_)
  rw [← hv]
  generalize w.alloc (.cells s.vals 26) = w1 at *
  obtain ⟨i0, hi, hz, hs1, hb1⟩ := byt29.info
  refine Stop.go (wpList_make_own w1 rfl _ _ 23 rfl w1.heap.size 5 i0 (.int .u8 0) 1 Try.underlying23 hi hz hs1 .i64 .i64 32 32 rfl rfl rfl (by rw [hb1]; decide) (by decide) (Nat.le_refl _) ?_)
  intro w2 ho hg
  have ho2 : Sp.Own 5 (w.heap.size + 1) w2 (.slice (some ⟨w1.heap.size, 0, none⟩) 0 32) (beL s 0) := by rw [← hsz]; exact ho
  have hb12 := toBelow hg (Nat.le_refl _) (fun k hk => by cases hk)
  have hR2 := hR.ext hb12
  have hbw2 := hb.trans (hb12.mono hb.size)
  clear hi hz hs1 hb1 ho hg hb12 hR hb hsz hv
  go_wp2
  go_loopw [4, 3] (fun i o wr => ∃ (j : Nat) (k : Int), j ≤ 8 ∧ i = .int .i64 k ∧ k = 7 - (j : Int) ∧ Sp.Own 5 (w.heap.size + 1) wr o (beL s j) ∧ Blk wr w.heap.size s.vals 26 ∧ Below w.heap.size w wr) (fun i _ _ => (intOf i + 1).toNat)
  case atStart => exact ⟨0, 7, by omega, rfl, rfl, ho2, hR2, hbw2⟩
  case round =>
    clear ho2 hR2 hbw2
    obtain ⟨j, k, hj, rfl, hk, ho, hR, hbw⟩ := hrel
    have hl := beL_length s j
    obtain ⟨oa, oc, rfl, hoc, hom⟩ := ho.byt.len
    unfold maxLen at hom
    by_cases hlt : j < 8
    · have hk0 : 0 ≤ k := by omega
      have hkt : k.toNat = 7 - j := by omega
      obtain ⟨x, hx⟩ : ∃ x, x = s.wd (7 - j) := ⟨_, rfl⟩
      have hcx : ∀ u, Blk u w.heap.size s.vals 26 → u.cell? ⟨w.heap.size, 7 - j, none⟩ = some (W x) := fun u h => by rw [h.cell, S8.wd_get s _ (by omega), hx]
      have HBL := Lib.hid (beL_succ s j)
      have HX := Lib.hid hx
      have HL := Lib.hid hl
      have hk7 : k ≤ 7 := by omega
      have HK := Lib.hid hk
      have HKT := Lib.hid hkt
      clear hx hl hk hkt
      have HCX := Lib.hid hcx
      clear hcx
      go_wp2
      refine wp_region_HE hd50 (fun ix => (lookL [.slice oa (beL s j).length oc, .int .i64 k, .pointer (some ⟨w.heap.size, 7 - j, none⟩), W x, W (shr x 24), B (shr x 24).toUInt8, .int .i64 k, .pointer (some ⟨w.heap.size, 7 - j, none⟩), W x, W (shr x 16), B (shr x 16).toUInt8, .int .i64 k, .pointer (some ⟨w.heap.size, 7 - j, none⟩), W x, W (shr x 8), B (shr x 8).toUInt8, .int .i64 k, .pointer (some ⟨w.heap.size, 7 - j, none⟩), W x, B x.toUInt8, undef, undef, undef] ix).getD undef) (fun u => Blk u w.heap.size s.vals 26) (S50 w s (.slice oa (beL s j).length oc) (beL s j) (be x)) (by kernel_rfl) (by kernel_rfl) (by kernel_rfl) ?_ ⟨hR.drew, hbw.drew, ho⟩ ?_
      · intro vs u hu
        rcases vs with _ | ⟨v1, _ | ⟨v2, _ | ⟨v3, _ | _⟩⟩⟩
        · exact hu.1
        · exact hu.1
        · exact hu.1
        · exact hu.1
        · exact hu.elim
      refine HE_head (v := .slice oa (beL s j).length oc) rfl rfl (fun u hu => r_move (rho_base rfl rfl)) ?_
      refine HE_head (v := .int .i64 k) rfl rfl (fun u hu => r_move (rho_base rfl rfl)) ?_
      refine HE_head (v := .pointer (some ⟨w.heap.size, 7 - j, none⟩)) rfl rfl (fun u hu => r_indexArr (o' := 7 - j) (rho_base rfl rfl) (rho_env rfl) ar26 ⟨hk0, by have := HK.out; omega, by have := HKT.out; omega⟩) ?_
      refine HE_head (v := W x) rfl rfl (fun u hu => r_load (rho_env rfl) on24 (HCX.out u hu)) ?_
      refine HE_head (v := W (shr x 24)) rfl rfl (fun u hu => r_shrW (rho_env rfl) rho_const ⟨by decide, by decide⟩) ?_
      refine HE_head (v := B (shr x 24).toUInt8) rfl rfl (fun u hu => r_convWB (rho_env rfl) rfl Try.underlying5) ?_
      refine HE_head (v := .int .i64 k) rfl rfl (fun u hu => r_move (rho_base rfl rfl)) ?_
      refine HE_head (v := .pointer (some ⟨w.heap.size, 7 - j, none⟩)) rfl rfl (fun u hu => r_indexArr (o' := 7 - j) (rho_base rfl rfl) (rho_env rfl) ar26 ⟨hk0, by have := HK.out; omega, by have := HKT.out; omega⟩) ?_
      refine HE_head (v := W x) rfl rfl (fun u hu => r_load (rho_env rfl) on24 (HCX.out u hu)) ?_
      refine HE_head (v := W (shr x 16)) rfl rfl (fun u hu => r_shrW (rho_env rfl) rho_const ⟨by decide, by decide⟩) ?_
      refine HE_head (v := B (shr x 16).toUInt8) rfl rfl (fun u hu => r_convWB (rho_env rfl) rfl Try.underlying5) ?_
      refine HE_head (v := .int .i64 k) rfl rfl (fun u hu => r_move (rho_base rfl rfl)) ?_
      refine HE_head (v := .pointer (some ⟨w.heap.size, 7 - j, none⟩)) rfl rfl (fun u hu => r_indexArr (o' := 7 - j) (rho_base rfl rfl) (rho_env rfl) ar26 ⟨hk0, by have := HK.out; omega, by have := HKT.out; omega⟩) ?_
      refine HE_head (v := W x) rfl rfl (fun u hu => r_load (rho_env rfl) on24 (HCX.out u hu)) ?_
      refine HE_head (v := W (shr x 8)) rfl rfl (fun u hu => r_shrW (rho_env rfl) rho_const ⟨by decide, by decide⟩) ?_
      refine HE_head (v := B (shr x 8).toUInt8) rfl rfl (fun u hu => r_convWB (rho_env rfl) rfl Try.underlying5) ?_
      refine HE_head (v := .int .i64 k) rfl rfl (fun u hu => r_move (rho_base rfl rfl)) ?_
      refine HE_head (v := .pointer (some ⟨w.heap.size, 7 - j, none⟩)) rfl rfl (fun u hu => r_indexArr (o' := 7 - j) (rho_base rfl rfl) (rho_env rfl) ar26 ⟨hk0, by have := HK.out; omega, by have := HKT.out; omega⟩) ?_
      refine HE_head (v := W x) rfl rfl (fun u hu => r_load (rho_env rfl) on24 (HCX.out u hu)) ?_
      refine HE_head (v := B x.toUInt8) rfl rfl (fun u hu => r_convWB (rho_env rfl) rfl Try.underlying5) ?_
      refine HE_run rfl (fun u hu => ?_) fun v1 => ?_
      · have ha := (Below.refl u.heap.size u).alloc (Nat.le_refl _) (.cells (([(shr x 24).toUInt8, (shr x 16).toUInt8, (shr x 8).toUInt8, x.toUInt8] : List UInt8).map B).toArray 5)
        exact ⟨_, _, r_buildB4 u (rho_env rfl) (rho_env rfl) (rho_env rfl) (rho_env rfl), hu.1.ext ha, hu.2.1.trans (ha.mono hu.2.1.size), hu.2.2.below ha, Byt.ofBlk (Blk.new u _ 5) (by simp [maxLen])⟩
      refine HE_run rfl (fun u hu => ?_) fun v2 => ?_
      · have hs0 := hu.1.lt
        obtain ⟨v', u', hr, h1, h2, _⟩ := run_append_byt (P := Try.prog) u byt29 23 (w.heap.size + 1) hu.2.2.1 hu.2.2.2 (by rw [HL.out]; simp [be]; omega) (by omega)
        have hbl : Below (w.heap.size + 1) u u' := toBelow h2 (by omega) (fun g hgg => (hu.2.2.1.lt g hgg).1)
        exact ⟨v', u', r_append (rho_env rfl) (rho_env rfl) hr, hu.1.below hbl (by omega), hu.2.1.trans (hbl.mono (by omega)), h1⟩
      refine HE_run rfl (fun u hu => ⟨_, _, r_assign (rho_env rfl), hu.1, hu.2.1, hu.2.2, rfl⟩) fun v3 => ?_
      refine HE_nil fun u hu => ?_
      rw [withEnv_norm (rfl : setsL _ 0 _ = [_, _, _, _, _, _, _, _, _, _, _, _, _, _, _, _, _, _, _, _, _, _, _, _, _, _, _, _, _, _, _, _, _, _])]
      obtain ⟨hR3, hb3, ho3, rfl⟩ := hu
      clear hR hbw ho
      go_wp2
      go_roundw
      case rel => exact ⟨j + 1, _, by omega, rfl, by have := HK.out; omega, by rw [HBL.out, ← HX.out]; exact ho3, hR3, hb3⟩
      case measure => simp [intOf]; omega
    · obtain rfl : j = 8 := by omega
      have hkn : k < 0 := by omega
      have HOC := Lib.hid hoc
      rw [hl] at ho hoc ⊢
      have hoc32 : 32 ≤ oc := by omega
      clear hl hk
      go_wp2
      go_ret
      exact ⟨oa, rfl, Byt.recap ho.byt (beL_length s 8) (by decide), hbw⟩
theorem pf50 : plainFn Try.prog 50 = true := by kernel_rfl
theorem pf51 : plainFn Try.prog 51 = true := by kernel_rfl
set_option maxRecDepth 100000 in
set_option maxHeartbeats 2000000 in
theorem geight_any (n : Int) (w : World) (hn : 0 ≤ n ∧ n ≤ 9223372036854775807) :
    Calls Try.prog 38 #[.int .i64 n] w fun e w' => ∃ v', e = .returned v' ∧ Byt w' v' (eight n) ∧ Below w.heap.size w w' := by
  go_enter Try.func38, Try.ntmps38
  go_wp2_with fail
  refine (from_any n _ hn).mono ?_
  rintro _ w1 ⟨rfl, hb1⟩
  go_wp2_with fail
  refine (bytes_any _ _).mono ?_
  rintro _ w2 ⟨oa, rfl, hB, hb2⟩
  have hbw := hb1.trans (hb2.mono hb1.size)
  go_wp2_with (refine (show wpList _ _ _ (⟨some 6, _, _, _, _, _⟩ :: _) _ _ from stop_here ?_))
  refine Stop.go (wpList_val rfl (r_slL (lo := 24) sl1_29 rfl rfl (by decide)) ?_)
  have hcut := hB.cut 24 32 (by decide) (by rw [beL_length]; decide)
  have he : ((beL (S8.mk (w32 n) (w32 (n / 4294967296)) 0 0 0 0 0 0) 8).take 32).drop 24 = eight n := by
    rw [← be_eight]; rfl
  rw [he] at hcut
  go_wp2
  go_ret
  exact ⟨_, rfl, hcut, hbw⟩
theorem geight_neg (n : Int) (w : World) (hn : n < 0) :
    Calls Try.prog 38 #[.int .i64 n] w fun e w' => ∃ v', e = .returned v' ∧ Byt w' v' (List.replicate 8 0) ∧ Below w.heap.size w w' := by
  go_enter Try.func38, Try.ntmps38
  go_wp2_with fail
  refine (from_neg n _ hn).mono ?_
  rintro _ w1 ⟨rfl, hb1⟩
  go_wp2_with fail
  refine (bytes_any _ _).mono ?_
  rintro _ w2 ⟨oa, rfl, hB, hb2⟩
  have hbw := hb1.trans (hb2.mono hb1.size)
  go_wp2_with (refine (show wpList _ _ _ (⟨some 6, _, _, _, _, _⟩ :: _) _ _ from stop_here ?_))
  refine Stop.go (wpList_val rfl (r_slL (lo := 24) sl1_29 rfl rfl (by decide)) ?_)
  have hcut := hB.cut 24 32 (by decide) (by rw [beL_length]; decide)
  have he : ((beL S8.zero 8).take 32).drop 24 = List.replicate 8 0 := by decide
  rw [he] at hcut
  go_wp2
  go_ret
  exact ⟨_, rfl, hcut, hbw⟩
theorem pf38 : plainFn Try.prog 38 = true := by kernel_rfl
end Go.Proofs.Ythpjihiikkhcjaa
namespace Go.Sp
open Go.RowKit
theorem Own.take0 {e : TypeId} {n : Nat} {w : World} {a : Option Addr} {k c : Nat} {l : List UInt8} (h : Own e n w (.slice a k c) l) (h0 : 0 < l.length) : Own e n w (.slice a 0 c) [] := by
  rcases h.2 with ⟨_, h1⟩ | ⟨g, cap, cur, hv, hb, hg, hc, hcm, hcs, ht⟩
  · omega
  · simp only [Value.slice.injEq] at hv
    obtain ⟨rfl, _, rfl⟩ := hv
    exact ⟨by simp, .inr ⟨g, c, cur, rfl, hb, hg, Nat.zero_le _, hcm, hcs, by simp⟩⟩
/-- All parts, one behind the other. -/
def cat (ls : List (List UInt8)) : List UInt8 := ls.flatMap id
end Go.Sp
namespace Go.Proofs.Ythpjihiikkhcjaa
open Go.RowKit Go.Sp
set_option maxHeartbeats 2000000 in
theorem grow_any (n : Nat) (w : World) (hn : n ≤ 100000000000) :
    Calls Try.prog 49 #[.slice none 0 0, .int .i64 n] w fun e w' => ∃ v', e = .returned v' ∧ Sp.Own 5 w.heap.size w' v' [] ∧ Below w.heap.size w w' := by
  have h0 : ¬ (n : Int) < 0 := by omega
  by_cases hz : n = 0
  · have hz' : ¬ (0 : Int) < (n : Int) := by omega
    go_enter Try.func49, Try.ntmps49
    go_wp2
    go_ret
    exact ⟨_, rfl, Own.nil _ _ _, Below.refl _ _⟩
  · have hz' : (0 : Int) < (n : Int) := by omega
    go_enter Try.func49, Try.ntmps49
    go_wp2_with (refine (show wpList _ _ _ (⟨some 22, _, _, _, _, _⟩ :: _) _ _ from stop_here ?_))
    refine Stop.go (wpList_append_zeros rfl rfl byt29 Try.underlying3 (Own.nil 5 w.heap.size w) rfl rfl (by simp; omega) (Nat.le_refl _) ?_)
    intro v w1 ho hg
    rw [List.nil_append] at ho
    have hbw := toBelow hg (Nat.le_refl _) (fun k hk => by cases hk)
    obtain ⟨va, vc, rfl, hvc, hvm⟩ := ho.byt.len
    have ho0 := Own.take0 ho (by simp; omega)
    unfold maxLen at hvm
    simp only [List.length_replicate] at *
    clear ho hg
    go_wp2
    go_ret
    exact ⟨_, rfl, ho0, hbw⟩
theorem pf49 : plainFn Try.prog 49 = true := by kernel_rfl
theorem cat_snoc (ls : List (List UInt8)) (k : Nat) (l : List UInt8) (h : ls[k]? = some l) : cat (ls.take (k + 1)) = cat (ls.take k) ++ l := by
  unfold cat
  rw [List.take_add_one, h, List.flatMap_append]; simp
theorem cat_le (ls : List (List UInt8)) (k : Nat) : (cat (ls.take k)).length ≤ (cat ls).length := by
  have h : cat ls = cat (ls.take k) ++ cat (ls.drop k) := by simp only [cat, ← List.flatMap_append, List.take_append_drop]
  rw [h, List.length_append]; omega
set_option maxHeartbeats 2000000 in
theorem concat_any (v : Value) (ls : List (List UInt8)) (w : World) (hL : Lst w v ls) (hlen : (cat ls).length ≤ 100000000000) :
    Calls Try.prog 37 #[v] w fun e w' => ∃ v', e = .returned v' ∧ Sp.Own 5 w.heap.size w' v' (cat ls) ∧ Below w.heap.size w w' := by
  have HL := Lib.hid hL
  have hva : ∃ a c, v = .slice a ls.length c := by
    rcases hL with ⟨rfl, rfl⟩ | ⟨_, _, _, rfl, _⟩ <;> exact ⟨_, _, rfl⟩
  obtain ⟨va, vc, rfl⟩ := hva
  clear hL
  go_enter Try.func37, Try.ntmps37
  go_wp2
  go_loopw [11, 3] (fun i n wr => ∃ (k m : Nat), k ≤ ls.length ∧ i = .int .i64 k ∧ n = .int .i64 m ∧ m = (cat (ls.take k)).length ∧ w = wr) (fun i _ _ => (ls.length - intOf i).toNat)
  case atStart => exact ⟨0, 0, by omega, rfl, rfl, rfl, rfl⟩
  case round =>
    obtain ⟨k, m, hk, rfl, rfl, hm, rfl⟩ := hrel
    by_cases hlt : k < ls.length
    · obtain ⟨l, hl⟩ : ∃ l, ls[k]? = some l := ⟨ls[k], by simp [hlt]⟩
      rcases HL.out with ⟨_, rfl⟩ | ⟨g, off, cap, hv, hq1, hq2, hg, h4⟩
      · simp at hlt
      unfold maxLen at hq2
      simp only [Value.slice.injEq, true_and] at hv
      obtain ⟨rfl, rfl⟩ := hv
      obtain ⟨u, hu, hub⟩ := h4 k l hl
      obtain ⟨ua, uc, rfl, hum, _⟩ := hub.len
      have hcs := cat_snoc ls k l hl
      have hcl := cat_le ls (k + 1)
      rw [hcs, List.length_append, ← hm] at hcl
      have hm2 : m + l.length = (cat (ls.take (k + 1))).length := by rw [hcs, List.length_append, hm]
      have HM := Lib.hid hm2
      clear hm2 hcs hm h4 hub hl
      have hlt' : (k : Int) < (ls.length : Int) := by omega
      have hk0 : (0 : Int) ≤ k := by omega
      have hnn : ¬ (m : Int) + (l.length : Int) < 0 := by omega
      go_wp2
      go_roundw
      case rel => exact ⟨k + 1, m + l.length, by omega, by go_num, by go_num, HM.out, trivial⟩
      case measure => simp [intOf]; omega
    · obtain rfl : k = ls.length := by omega
      rw [List.take_length] at hm
      have hmx : m ≤ 100000000000 := by omega
      clear hlt hm
      go_wp2_with fail
      refine (grow_any m _ hmx).mono ?_
      rintro _ w1 ⟨v1, rfl, ho1, hb1⟩
      go_wp2
      go_loopw [27, 6] (fun i o wr => ∃ (k : Nat), k ≤ ls.length ∧ i = .int .i64 k ∧ Sp.Own 5 w.heap.size wr o (cat (ls.take k)) ∧ Below w.heap.size w wr) (fun i _ _ => (ls.length - intOf i).toNat)
      case atStart => exact ⟨0, by omega, rfl, ho1, hb1⟩
      case round =>
        clear ho1 hb1
        obtain ⟨k, hk, rfl, ho, hb⟩ := hrel
        by_cases hlt : k < ls.length
        · obtain ⟨l, hl⟩ : ∃ l, ls[k]? = some l := ⟨ls[k], by simp [hlt]⟩
          rcases HL.out with ⟨_, rfl⟩ | ⟨g, off, cap, hv, hq1, hq2, hg, h4⟩
          · simp at hlt
          unfold maxLen at hq2
          simp only [Value.slice.injEq, true_and] at hv
          obtain ⟨rfl, rfl⟩ := hv
          obtain ⟨u, hu, hub⟩ := h4 k l hl
          have hu' := (World.cell?_of_block (hb.block g hg)).trans hu
          have hub' := hub.ext hb
          obtain ⟨ua, uc, rfl, hum, _⟩ := hub.len
          have hcs := cat_snoc ls k l hl
          have hcl := cat_le ls (k + 1)
          rw [hcs, List.length_append] at hcl
          have HCS := Lib.hid hcs
          clear hcs h4 hub hl hu
          have hlt' : (k : Int) < (ls.length : Int) := by omega
          have hk0 : (0 : Int) ≤ k := by omega
          have hsz := hb.size
          go_wp2_with (refine (show wpList _ _ _ (⟨some 33, _, _, _, _, _⟩ :: _) _ _ from stop_here ?_))
          refine Stop.go (wpList_append_byt rfl rfl byt29 ho hub' rfl rfl (by omega) hsz ?_)
          intro v2 w2 ho2 hg2 _
          rw [← HCS.out] at ho2
          have hb2 := hb.trans (toBelow hg2 hsz (fun j hj => (ho.lt j hj).1))
          clear ho hg2 hb hub' hu' hcl
          go_wp2
          go_roundw
          case rel => exact ⟨k + 1, by omega, by go_num, ho2, hb2⟩
          case measure => simp [intOf]; omega
        · obtain rfl : k = ls.length := by omega
          rw [List.take_length] at ho
          go_wp2
          go_ret
          exact ⟨_, rfl, ho, hb⟩
theorem pf37 : plainFn Try.prog 37 = true := by kernel_rfl
end Go.Proofs.Ythpjihiikkhcjaa
namespace Go.Sp
open Go.RowKit
def tokV (nm : List UInt8) (i c e r : Int) : Array Value := #[.string ⟨nm.toArray⟩, .int .i64 i, .int .i64 c, .int .i64 e, .int .i64 r]
/-- A token's bytes, without its sum. -/
def bodyB (nm : List UInt8) (i c e r : Int) : List UInt8 := cat [[b8 nm.length], nm, eight i, eight c, eight e, eight r]
def tokenS : List UInt8 := [116, 111, 107, 101, 110]
def issueB (key nm : List UInt8) (i c e r : Int) : List UInt8 := bodyB nm i c e r ++ macB key [tokenS, bodyB nm i c e r]
end Go.Sp
namespace Go.Proofs.Ythpjihiikkhcjaa
open Go.RowKit Go.Sp
theorem run_string_bytes (nm : List UInt8) (hl : nm.length ≤ 1000000) (u : World) : ∃ v u', (convert 9 23 (.string ⟨nm.toArray⟩)).run Try.prog u = .ok v u' ∧ Byt u' v nm ∧ Below u.heap.size u u' := by
  have hsz : (⟨nm.toArray⟩ : ByteArray).size = nm.length := rfl
  have hg := grownCap_ge u nm.length 0 5
  have hm := grownCap_le_maxLen u nm.length 0 5 (by unfold maxLen; omega)
  refine ⟨_, _, Lib.run_convert_string_bytes u 9 23 5 ⟨nm.toArray⟩ Try.underlying9 Try.underlying23 Try.underlying5, ?_, ?_⟩
  · rw [hsz]
    refine .inr ⟨u.heap.size, 0, _, rfl, hg, hm, by rw [Lib.bytesWorld_size]; omega, fun i b hi => ?_⟩
    have hib : i < nm.length := (List.getElem?_eq_some_iff.1 hi).1
    rw [Nat.zero_add, Lib.bytesWorld_cell u 5 ⟨nm.toArray⟩ i (by rw [hsz]; exact hib)]
    simp only [List.getD_eq_getElem?_getD]
    rw [hi]; rfl
  · refine ⟨by simp [Lib.bytesWorld, World.freeze]; rfl, by simp [Lib.bytesWorld, World.freeze], by simp [Lib.bytesWorld, World.freeze]; rfl, by rw [Lib.bytesWorld_size]; omega, fun k hk => Lib.bytesWorld_at_old u 5 _ k hk⟩
theorem conv_token (w : World) (L : List UInt8) (hL : L.length ≤ 1000) : ∃ u', (convert 23 23 (.slice (some ⟨w.heap.size, 0, none⟩) L.length L.length)).run Try.prog (w.alloc (.cells (L.map B).toArray 5)) = .ok (.slice (some ⟨w.heap.size, 0, none⟩) L.length L.length) u' ∧ Byt u' (.slice (some ⟨w.heap.size, 0, none⟩) L.length L.length) L ∧ Below w.heap.size w u' := by
  have hB := Blk.new w (L.map B).toArray 5
  have hs : (w.alloc (.cells (L.map B).toArray 5)).heap.size = w.heap.size + 1 := by simp
  have ha : Below w.heap.size w (w.alloc (.cells (L.map B).toArray 5)) := (Below.refl _ _).alloc (Nat.le_refl _) _
  generalize w.alloc (.cells (L.map B).toArray 5) = u at *
  have hx : ∀ k, ExtM 5 w.heap.size u (u.freeze ⟨w.heap.size, k, none⟩ 1) := fun k => freeze_ext _ _ _ _ (Nat.le_refl _) ⟨_, _, hB⟩
  have hby : Byt u (.slice (some ⟨w.heap.size, 0, none⟩) L.length L.length) L := Byt.ofBlk hB (by simp [maxLen]; omega)
  cases hsh : u.shape? w.heap.size with
  | none => exact ⟨u, by simp [convert, run_underlying Try.underlying23, run_underlying Try.underlying5, markStringish, hsh], hby, ha⟩
  | some tn => exact ⟨u.freeze ⟨w.heap.size, tn.2, none⟩ 1, by simp [convert, run_underlying Try.underlying23, run_underlying Try.underlying5, markStringish, hsh], hby.extM (hx _), ha.trans (hx _).below⟩
end Go.Proofs.Ythpjihiikkhcjaa
namespace Go.Sp
open Go.RowKit
theorem Lst.ofBlk {w : World} {g : Nat} {cs : Array Value} {t : TypeId} {ls : List (List UInt8)} (hB : Blk w g cs t) (hn : ls.length ≤ maxLen) (h : ∀ (i : Nat) (l : List UInt8), ls[i]? = some l → ∃ u, cs[i]? = some u ∧ Byt w u l) : Lst w (.slice (some ⟨g, 0, none⟩) ls.length ls.length) ls :=
  .inr ⟨g, 0, ls.length, rfl, Nat.le_refl _, hn, hB.lt, fun i l hi => by
    obtain ⟨u, hu, hb⟩ := h i l hi
    exact ⟨u, by rw [hB.cell, Nat.zero_add]; exact hu, hb⟩⟩
theorem Lst.two {w : World} {u v : Value} {k l : List UInt8} {t : TypeId} (h1 : Byt w u k) (h2 : Byt w v l) : Lst (w.alloc (.cells #[u, v] t)) (.slice (some ⟨w.heap.size, 0, none⟩) 2 2) [k, l] := by
  have e := (Below.refl w.heap.size w).alloc (Nat.le_refl _) (.cells #[u, v] t)
  refine Lst.ofBlk (ls := [k, l]) (Blk.new w _ t) (by simp [maxLen]) fun i m hi => ?_
  match i, hi with
  | 0, hi => simp at hi; subst hi; exact ⟨u, rfl, h1.ext e⟩
  | 1, hi => simp at hi; subst hi; exact ⟨v, rfl, h2.ext e⟩
theorem Lst.extM {bt : TypeId} {n : Nat} {w w' : World} {v : Value} {ls : List (List UInt8)} (h : Lst w v ls) (e : ExtM bt n w w') : Lst w' v ls := by
  rcases h with h | ⟨g, off, cap, rfl, h1, h2, h3, h4⟩
  · exact .inl h
  · exact .inr ⟨g, off, cap, rfl, h1, h2, Nat.lt_of_lt_of_le h3 e.below.size, fun i l hi => by
      obtain ⟨u, hu, hb⟩ := h4 i l hi
      exact ⟨u, e.cell hu, hb.extM e⟩⟩
theorem Lst.six {w : World} {u0 u1 u2 u3 u4 u5 : Value} {k0 k1 k2 k3 k4 k5 : List UInt8} {t : TypeId} (h0 : Byt w u0 k0) (h1 : Byt w u1 k1) (h2 : Byt w u2 k2) (h3 : Byt w u3 k3) (h4 : Byt w u4 k4) (h5 : Byt w u5 k5) : Lst (w.alloc (.cells #[u0, u1, u2, u3, u4, u5] t)) (.slice (some ⟨w.heap.size, 0, none⟩) 6 6) [k0, k1, k2, k3, k4, k5] := by
  have e := (Below.refl w.heap.size w).alloc (Nat.le_refl _) (.cells #[u0, u1, u2, u3, u4, u5] t)
  refine Lst.ofBlk (ls := [k0, k1, k2, k3, k4, k5]) (Blk.new w _ t) (by simp [maxLen]) fun i n hi => ?_
  match i, hi with
  | 0, hi => simp at hi; subst hi; exact ⟨u0, rfl, h0.ext e⟩
  | 1, hi => simp at hi; subst hi; exact ⟨u1, rfl, h1.ext e⟩
  | 2, hi => simp at hi; subst hi; exact ⟨u2, rfl, h2.ext e⟩
  | 3, hi => simp at hi; subst hi; exact ⟨u3, rfl, h3.ext e⟩
  | 4, hi => simp at hi; subst hi; exact ⟨u4, rfl, h4.ext e⟩
  | 5, hi => simp at hi; subst hi; exact ⟨u5, rfl, h5.ext e⟩

theorem macB_length (key : List UInt8) (ls : List (List UInt8)) : (macB key ls).length = 16 := sumB_length _ _
theorem flat_cat (nm : List UInt8) (i c e r : Int) : (bodyB nm i c e r).length = nm.length + 33 := by
  simp [bodyB, cat, eight_length]
end Go.Sp
namespace Go.Proofs.Ythpjihiikkhcjaa
open Go.RowKit Go.Sp
theorem r_lenS {ρ : Operand → Value} {d : Option Tmp} {t ty : TypeId} {pos : String} {aft : Array Edge} {g : Option (Nat × Bool)} {x : Operand} {P : Program} {w : World} {s : ByteArray} (hx : ρ x = .string s) (ht : P.underlying t = some .string) : (execOp ρ ⟨d, .call { callee := .builtin .len, args := #[x], argTypes := #[t] }, ty, pos, aft, g⟩).run P w = .ok (.value (.int .i64 s.size)) w := by
  simp [execOp, resolve, invoke, builtin, hx, Builtin.len_, run_underlying ht, goInt]
theorem r_buildB1 {ρ : Operand → Value} {d ty pos aft g} {p : Operand} {x : UInt8} (u : World) (h1 : ρ p = B x) :
    (execOp ρ ⟨d, .buildSlice 23 1 #[(0, p)], ty, pos, aft, g⟩).run Try.prog u = .ok (.value (.slice (some ⟨u.heap.size, 0, none⟩) 1 1)) (u.alloc (.cells ([x].map B).toArray 5)) := by
  simp only [execOp]
  go_simp
theorem r_build42_6 {ρ : Operand → Value} {d ty pos aft g} {p0 p1 p2 p3 p4 p5 : Operand} {w : World} {k0 k1 k2 k3 k4 k5 : List UInt8} {v0 v1 v2 v3 v4 v5 : Value} (h0 : ρ p0 = v0) (h1 : ρ p1 = v1) (h2 : ρ p2 = v2) (h3 : ρ p3 = v3) (h4 : ρ p4 = v4) (h5 : ρ p5 = v5)
    (b0 : Byt w v0 k0) (b1 : Byt w v1 k1) (b2 : Byt w v2 k2) (b3 : Byt w v3 k3) (b4 : Byt w v4 k4) (b5 : Byt w v5 k5) :
    (execOp ρ ⟨d, .buildSlice 42 6 #[(0, p0), (1, p1), (2, p2), (3, p3), (4, p4), (5, p5)], ty, pos, aft, g⟩).run Try.prog w = .ok (.value (.slice (some ⟨w.heap.size, 0, none⟩) 6 6)) (w.alloc (.cells #[v0, v1, v2, v3, v4, v5] 23)) := by
  obtain ⟨_, _, rfl, _⟩ := b0.len
  obtain ⟨_, _, rfl, _⟩ := b1.len
  obtain ⟨_, _, rfl, _⟩ := b2.len
  obtain ⟨_, _, rfl, _⟩ := b3.len
  obtain ⟨_, _, rfl, _⟩ := b4.len
  obtain ⟨_, _, rfl, _⟩ := b5.len
  simp only [execOp]
  go_simp
theorem r_sliceArr65 {ρ : Operand → Value} {d ty pos aft g} {x : Operand} {b : Nat} (u : World) (hx : ρ x = .pointer (some ⟨b, 0, none⟩)) : (execOp ρ ⟨d, .slice 65 x none none none, ty, pos, aft, g⟩).run Try.prog u = .ok (.value (.slice (some ⟨b, 0, none⟩) 16 16)) u := by
  simp only [execOp, hx]
  go_simp
theorem Byt.ofBlk16 {w : World} {g : Nat} {l : List UInt8} {t : TypeId} (h : Blk w g (l.map B).toArray t) (hl : l.length = 16) : Byt w (.slice (some ⟨g, 0, none⟩) 16 16) l := by
  have := Byt.ofBlk h (by rw [hl]; simp [maxLen])
  rwa [hl] at this
theorem size65 {l : List UInt8} (h : l.length = 16) : (Try.prog.info? 65).map (·.size) = some (l.map B).toArray.size ∧ ∀ z : List UInt8, z.length = 16 → (z.map B).toArray.size = (l.map B).toArray.size :=
  ⟨by rw [show (l.map B).toArray.size = 16 by simp [h]]; kernel_rfl, fun z hz => by simp [h, hz]⟩
def ex21 (j : Nat) : Bool := !([4, 7, 10, 13, 16, 19, 20, 21, 22].contains j)
def V21 (nm : List UInt8) (i c e r : Int) : Nat → Value → World → Prop
  | 4, v, u => Byt u v [b8 nm.length]
  | 7, v, u => Byt u v nm
  | 10, v, u => Byt u v (eight i)
  | 13, v, u => Byt u v (eight c)
  | 16, v, u => Byt u v (eight e)
  | 19, v, u => Byt u v (eight r)
  | 20, v, u => Lst u v [[b8 nm.length], nm, eight i, eight c, eight e, eight r]
  | 21, v, u => Byt u v (bodyB nm i c e r)
  | 22, v, u => Byt u v (bodyB nm i c e r)
  | _, _, _ => True
theorem V21_mono (nm : List UInt8) (i c e r : Int) (n : Nat) (j : Nat) (v : Value) (u u' : World) (h : ExtM 5 n u u') (k : V21 nm i c e r j v u) : V21 nm i c e r j v u' := by
  unfold V21 at *
  split at k <;> first | exact k.extM h | trivial
theorem on9 : oneT Try.prog 9 = true := by kernel_rfl
theorem fld35_0 : fieldOff Try.prog 35 0 = some 0 := by kernel_rfl
theorem fld35_1 : fieldOff Try.prog 35 1 = some 1 := by kernel_rfl
theorem fld35_2 : fieldOff Try.prog 35 2 = some 2 := by kernel_rfl
theorem fld35_3 : fieldOff Try.prog 35 3 = some 3 := by kernel_rfl
theorem fld35_4 : fieldOff Try.prog 35 4 = some 4 := by kernel_rfl
set_option maxRecDepth 100000 in
set_option maxHeartbeats 4000000 in
theorem issue_any (kv : Value) (key nm : List UInt8) (i c e r : Int) (w : World) (hk : Byt w kv key) (hkl : key.length ≤ 1000) (hnl : nm.length ≤ 1000) (hi : 0 ≤ i ∧ i ≤ 9223372036854775807) (hc : 0 ≤ c ∧ c ≤ 9223372036854775807) (he : 0 ≤ e ∧ e ≤ 9223372036854775807) (hr : 0 ≤ r ∧ r ≤ 9223372036854775807) :
    Calls Try.prog 21 #[kv, .agg (tokV nm i c e r)] w fun e' w' => ∃ v', e' = .returned v' ∧ Byt w' v' (issueB key nm i c e r) ∧ Below w.heap.size w w' := by
  have HK := Lib.hid hk
  obtain ⟨R, hRR⟩ : ∃ R, R = issueB key nm i c e r := ⟨_, rfl⟩
  rw [← hRR]
  unfold issueB at hRR
  have HRR := Lib.hid hRR
  clear hRR
  obtain ⟨ka, kc, rfl, hkc, hkm⟩ := hk.len
  clear hk
  have hR : Blk (w.alloc (.cells (tokV nm i c e r) 35)) w.heap.size (tokV nm i c e r) 35 := Blk.new w _ 35
  have hbw : Below w.heap.size w (w.alloc (.cells (tokV nm i c e r) 35)) := (Below.refl _ _).alloc (Nat.le_refl _) _
  have htv : tokV nm i c e r = #[.string ⟨nm.toArray⟩, .int .i64 i, .int .i64 c, .int .i64 e, .int .i64 r] := rfl
  rw [htv]
  go_enter Try.func21, Try.ntmps21
  go_wp2
  rw [← htv]
  generalize w.alloc (.cells (tokV nm i c e r) 35) = w1 at *
  have hx : ∀ {u u' : World}, ExtM 5 w1.heap.size w1 u → Below u.heap.size u u' → ExtM 5 w1.heap.size u u' := fun h k => ExtM.of k h.below.size
  have hc0 : w1.cell? ⟨w.heap.size, 0 + 0, none⟩ = some (.string ⟨nm.toArray⟩) := by rw [hR.cell]; rfl
  have hc1 : w1.cell? ⟨w.heap.size, 0 + 1, none⟩ = some (.int .i64 i) := by rw [hR.cell]; rfl
  have hc2 : w1.cell? ⟨w.heap.size, 0 + 2, none⟩ = some (.int .i64 c) := by rw [hR.cell]; rfl
  have hc3 : w1.cell? ⟨w.heap.size, 0 + 3, none⟩ = some (.int .i64 e) := by rw [hR.cell]; rfl
  have hc4 : w1.cell? ⟨w.heap.size, 0 + 4, none⟩ = some (.int .i64 r) := by rw [hR.cell]; rfl
  refine wp_region_VE (bt := 5) ex21 (fun ix => (lookL [.pointer (some ⟨w.heap.size, 0 + 0, none⟩), .string ⟨nm.toArray⟩, .int .i64 ((nm.length : Nat) : Int), B (b8 nm.length), undef, .pointer (some ⟨w.heap.size, 0 + 0, none⟩), .string ⟨nm.toArray⟩, undef, .pointer (some ⟨w.heap.size, 0 + 1, none⟩), .int .i64 i, undef, .pointer (some ⟨w.heap.size, 0 + 2, none⟩), .int .i64 c, undef, .pointer (some ⟨w.heap.size, 0 + 3, none⟩), .int .i64 e, undef, .pointer (some ⟨w.heap.size, 0 + 4, none⟩), .int .i64 r, undef, undef, undef, undef] ix).getD undef) (V21 nm i c e r) (by kernel_rfl) (by kernel_rfl) (by kernel_rfl) (V21_mono _ _ _ _ _ _) fun x => ?_
  refine VE_ex (v := .pointer (some ⟨w.heap.size, 0 + 0, none⟩)) rfl rfl rfl (fun u hu hf => r_fieldAddr (rho_base rfl rfl) fld35_0) ?_
  refine VE_ex (v := .string ⟨nm.toArray⟩) rfl rfl rfl (fun u hu hf => r_load (rho_env rfl) on9 (hu.cell hc0)) ?_
  refine VE_ex (v := .int .i64 ((nm.length : Nat) : Int)) rfl rfl rfl (fun u hu hf => r_lenS (s := ⟨nm.toArray⟩) (rho_env rfl) Try.underlying9) ?_
  refine VE_ex (v := B (b8 nm.length)) rfl rfl rfl (fun u hu hf => r_conv (rho_env rfl) (run_convert_u8 u 3 5 _ _ rfl Try.underlying5)) ?_
  refine VE_any rfl rfl (fun u hu hf => ?_) ?_
  · exact ⟨_, _, r_buildB1 u (rho_env rfl), hx hu ((Below.refl _ _).alloc (Nat.le_refl _) _), Byt.ofBlk (l := [b8 nm.length]) (Blk.new u _ 5) (by simp [maxLen])⟩
  refine VE_ex (v := .pointer (some ⟨w.heap.size, 0 + 0, none⟩)) rfl rfl rfl (fun u hu hf => r_fieldAddr (rho_base rfl rfl) fld35_0) ?_
  refine VE_ex (v := .string ⟨nm.toArray⟩) rfl rfl rfl (fun u hu hf => r_load (rho_env rfl) on9 (hu.cell hc0)) ?_
  refine VE_any rfl rfl (fun u hu hf => ?_) ?_
  · obtain ⟨v, u', hr', hb', hbl⟩ := run_string_bytes nm (by omega) u
    exact ⟨v, u', r_conv (rho_env rfl) hr', hx hu hbl, hb'⟩
  refine VE_ex (v := .pointer (some ⟨w.heap.size, 0 + 1, none⟩)) rfl rfl rfl (fun u hu hf => r_fieldAddr (rho_base rfl rfl) fld35_1) ?_
  refine VE_ex (v := .int .i64 i) rfl rfl rfl (fun u hu hf => r_load (rho_env rfl) on3 (hu.cell hc1)) ?_
  refine VE_callp (f := 38) (args := #[.int .i64 i]) rfl rfl (fun u => r_call pf38 (map1 (rho_env rfl)) rfl) (fun u hu hf => ?_) ?_
  · refine (geight_any i u hi).mono ?_
    rintro _ u' ⟨v', rfl, ho, hb⟩
    exact ⟨v', rfl, hx hu hb, ho⟩
  refine VE_ex (v := .pointer (some ⟨w.heap.size, 0 + 2, none⟩)) rfl rfl rfl (fun u hu hf => r_fieldAddr (rho_base rfl rfl) fld35_2) ?_
  refine VE_ex (v := .int .i64 c) rfl rfl rfl (fun u hu hf => r_load (rho_env rfl) on3 (hu.cell hc2)) ?_
  refine VE_callp (f := 38) (args := #[.int .i64 c]) rfl rfl (fun u => r_call pf38 (map1 (rho_env rfl)) rfl) (fun u hu hf => ?_) ?_
  · refine (geight_any c u hc).mono ?_
    rintro _ u' ⟨v', rfl, ho, hb⟩
    exact ⟨v', rfl, hx hu hb, ho⟩
  refine VE_ex (v := .pointer (some ⟨w.heap.size, 0 + 3, none⟩)) rfl rfl rfl (fun u hu hf => r_fieldAddr (rho_base rfl rfl) fld35_3) ?_
  refine VE_ex (v := .int .i64 e) rfl rfl rfl (fun u hu hf => r_load (rho_env rfl) on3 (hu.cell hc3)) ?_
  refine VE_callp (f := 38) (args := #[.int .i64 e]) rfl rfl (fun u => r_call pf38 (map1 (rho_env rfl)) rfl) (fun u hu hf => ?_) ?_
  · refine (geight_any e u he).mono ?_
    rintro _ u' ⟨v', rfl, ho, hb⟩
    exact ⟨v', rfl, hx hu hb, ho⟩
  refine VE_ex (v := .pointer (some ⟨w.heap.size, 0 + 4, none⟩)) rfl rfl rfl (fun u hu hf => r_fieldAddr (rho_base rfl rfl) fld35_4) ?_
  refine VE_ex (v := .int .i64 r) rfl rfl rfl (fun u hu hf => r_load (rho_env rfl) on3 (hu.cell hc4)) ?_
  refine VE_callp (f := 38) (args := #[.int .i64 r]) rfl rfl (fun u => r_call pf38 (map1 (rho_env rfl)) rfl) (fun u hu hf => ?_) ?_
  · refine (geight_any r u hr).mono ?_
    rintro _ u' ⟨v', rfl, ho, hb⟩
    exact ⟨v', rfl, hx hu hb, ho⟩
  refine VE_any rfl rfl (fun u hu hf => ?_) ?_
  · exact ⟨_, _, r_build42_6 (rho_env rfl) (rho_env rfl) (rho_env rfl) (rho_env rfl) (rho_env rfl) (rho_env rfl) (hf 4 rfl (by decide) rfl) (hf 7 rfl (by decide) rfl) (hf 10 rfl (by decide) rfl) (hf 13 rfl (by decide) rfl) (hf 16 rfl (by decide) rfl) (hf 19 rfl (by decide) rfl), hx hu ((Below.refl _ _).alloc (Nat.le_refl _) _), Lst.six (hf 4 rfl (by decide) rfl) (hf 7 rfl (by decide) rfl) (hf 10 rfl (by decide) rfl) (hf 13 rfl (by decide) rfl) (hf 16 rfl (by decide) rfl) (hf 19 rfl (by decide) rfl)⟩
  refine VE_callp (f := 37) (args := #[x 20]) rfl rfl (fun u => r_call pf37 (map1 (rho_env rfl)) rfl) (fun u hu hf => ?_) ?_
  · refine (concat_any _ _ u (hf 20 rfl (by decide) rfl) (by have := flat_cat nm i c e r; unfold bodyB at this; omega)).mono ?_
    rintro _ u' ⟨v', rfl, ho, hb⟩
    exact ⟨v', rfl, hx hu hb, ho.byt⟩
  refine VE_any rfl rfl (fun u hu hf => ?_) ?_
  · exact ⟨_, _, r_assign (rho_env rfl), ExtM.refl _ _ _, hf 21 rfl (by decide) rfl⟩
  refine VE_nil fun u hu hf => ?_
  rw [withEnv_norm (rfl : setsL _ 0 _ = [_, _, _, _, _, _, _, _, _, _, _, _, _, _, _, _, _, _, _, _, _, _, _, _, _, _, _, _, _, _, _, _, _, _, _, _, _, _, _])]
  have hb2 : Byt u (x 22) (bodyB nm i c e r) := hf 22 (by decide) rfl
  have hbw2 := hbw.trans (hu.below.mono hbw.size)
  have hbl := flat_cat nm i c e r
  have hble : (bodyB nm i c e r).length ≤ 1033 := by omega
  clear hbl
  generalize bodyB nm i c e r = bd at *
  generalize x 22 = bv at *
  clear hf hx hu hbw hR hc0 hc1 hc2 hc3 hc4 htv
  obtain ⟨va, vc, rfl, hvc, hvm⟩ := hb2.len
  unfold maxLen at hvm
  generalize x 21 = x21
  generalize x 20 = x20
  obtain ⟨u2, hr2, hbt, hbl2⟩ := conv_token u tokenS (by decide)
  have hr2' : (convert 23 23 (.slice (some ⟨u.heap.size, 0, none⟩) 5 5)).run Try.prog (u.alloc (.cells #[.int .u8 116, .int .u8 111, .int .u8 107, .int .u8 101, .int .u8 110] 5)) = .ok (.slice (some ⟨u.heap.size, 0, none⟩) 5 5) u2 := hr2
  have hbt2 : Byt u2 (.slice (some ⟨u.heap.size, 0, none⟩) 5 5) tokenS := hbt
  have hbd2 := hb2.ext hbl2
  have hbw3 := hbw2.trans (hbl2.mono hbw2.size)
  have HR2 := Lib.hid hr2'
  clear hr2 hr2' hbt hbl2 hb2 hbw2
  go_wp2_with (refine (show wpList _ _ _ (⟨some 31, .convert 23 23 (.tmp 30), _, _, _, _⟩ :: _) _ _ from stop_here ?_))
  refine Stop.go (wpList_val rfl (r_conv rfl HR2.out) ?_)
  clear HR2
  go_wp2_with fail
  have ha := (Below.refl u2.heap.size u2).alloc (Nat.le_refl _) (.cells #[.slice (some ⟨u.heap.size, 0, none⟩) 5 5, .slice va bd.length vc] 23)
  refine (mac_any _ _ key [tokenS, bd] _ ((HK.out.ext hbw3).ext ha) (Lst.two hbt2 hbd2) (by omega) (len2 (by decide) (by omega))).mono ?_
  rintro _ u3 ⟨rfl, hb3⟩
  have hbb := ha.trans (hb3.mono ha.size)
  have hbd3 := hbd2.ext hbb
  have hbw4 := hbw3.trans (hbb.mono hbw3.size)
  clear ha hb3 hbb hbd2 hbw3 hbt2
  obtain ⟨A, hA⟩ : ∃ A, A = macB key [tokenS, bd] := ⟨_, rfl⟩
  have hAl : A.length = 16 := by rw [hA]; exact macB_length _ _
  have HRA : Hid (R = bd ++ A) := Lib.hid (by rw [HRR.out, hA])
  rw [← hA]
  have HAL := Lib.hid hAl
  clear hA hAl
  go_wp2_with (refine (show wpList _ _ _ (⟨none, .store 65 (.tmp 6) (.tmp 34), _, _, _, _⟩ :: _) _ _ from stop_here ?_))
  refine Stop.go (wpList_store_blk rfl rfl rfl rfl (Blk.new u3 _ 65) ((size65 HAL.out).2 (List.replicate 16 0) rfl) (size65 HAL.out).1 (bytes_one _) ?_)
  intro u4 hR4 hO4
  have hb4 : Below u3.heap.size u3 u4 := ((Below.refl _ _).alloc (Nat.le_refl _) _).trans (hO4.below (Nat.le_refl _) (by simp))
  have hbd4 := hbd3.ext hb4
  have hbw5 := hbw4.trans (hb4.mono hbw4.size)
  have hA4 := Byt.ofBlk16 hR4 HAL.out
  clear hO4 hb4 hbd3 hbw4 hR4
  go_wp2_with (refine (show wpList _ _ _ (⟨some 36, .slice 65 (.tmp 6) none none none, _, _, _, _⟩ :: _) _ _ from stop_here ?_))
  refine Stop.go (wpList_val rfl (r_sliceArr65 u4 rfl) ?_)
  go_wp2_with fail
  have ha := (Below.refl u4.heap.size u4).alloc (Nat.le_refl _) (.cells #[.slice va bd.length vc, .slice (some ⟨u3.heap.size, 0, none⟩) 16 16] 23)
  refine (concat_any _ [bd, A] _ (Lst.two hbd4 hA4) (by have := HAL.out; simp [cat]; omega)).mono ?_
  rintro _ u5 ⟨rv, rfl, hro, hb5⟩
  have hbw6 := hbw5.trans ((ha.trans (hb5.mono ha.size)).mono hbw5.size)
  have hcat : cat [bd, A] = R := by rw [HRA.out]; simp [cat]
  rw [hcat] at hro
  clear ha hb5 hcat hbw5 hbd4 hA4
  go_wp2
  go_ret
  exact ⟨_, rfl, hro.byt, hbw6⟩
theorem pf21 : plainFn Try.prog 21 = true := by kernel_rfl
end Go.Proofs.Ythpjihiikkhcjaa
