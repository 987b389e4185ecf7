/-
  A part of the proofs of this seat: laws of the walk, or contracts of the functions that the statements reach. No conditions but those that each theorem names.
-/
import Derived.Test.YtbbpcgodjncflaaL10
namespace Go.Sp
open Go.RowKit
theorem strm_prefix (key : List UInt8) (i : Nat) : ∀ k : Nat, i < k → ∀ j, j < 16 → (strm key k)[16 * i + j]? = (macB key [eight (i : Int)])[j]?
  | 0, h, _, _ => by omega
  | k + 1, h, j, hj => by
    rw [strm_succ]
    by_cases e : i = k
    · subst e
      rw [List.getElem?_append_right (by rw [strm_length]; omega), strm_length]
      congr 1; omega
    · rw [List.getElem?_append_left (by rw [strm_length]; omega)]
      exact strm_prefix key i k (by omega) j hj
theorem streamB_at (key : List UInt8) (n i j : Nat) (hj : j < 16) (h : 16 * i + j < n) : (streamB key n)[16 * i + j]? = (macB key [eight (i : Int)])[j]? := by
  unfold streamB
  rw [List.getElem?_take, if_pos h]
  exact strm_prefix key i _ (by omega) j hj
end Go.Sp
namespace Go.Proofs.Ytbbpcgodjncflaa
open Go.RowKit Go.Sp
theorem r_neqB {ρ : Operand → Value} {d : Option Tmp} {t t' ty : TypeId} {pos : String} {aft : Array Edge} {g : Option (Nat × Bool)} {x y : Operand} {P : Program} {w : World} {a : UInt8} (hx : ρ x = B a) (hy : ρ y = B a) : (execOp ρ ⟨d, .binOp .neq t x y t', ty, pos, aft, g⟩).run P w = .ok (.value (.bool false)) w :=
  (r_bin hx hy rfl rfl).trans (by simp)
theorem r_bool {ρ : Operand → Value} {d : Option Tmp} {ty : TypeId} {pos : String} {aft : Array Edge} {g : Option (Nat × Bool)} {x : Operand} {P : Program} {w : World} (b : Bool) (hx : ρ x = .bool b) : (execOp ρ ⟨d, .move x, ty, pos, aft, g⟩).run P w = .ok (.value (.bool b)) w := r_move hx
/-- A stream of any length. -/
def StreamIs (key : List UInt8) (n : Nat) (w : World) (v : Value) : Prop := Byt w v (streamB key n)
theorem stream_any (a : Option Addr) (c : Nat) (key : List UInt8) (n : Nat) (hn : n ≤ 1000) (w : World) (hk : Byt w (.slice a key.length c) key) (hkl : key.length ≤ 549755813888) :
    Calls Try.prog 29 #[.slice a key.length c, .int .i64 n] w fun e w' => ∃ v', e = .returned v' ∧ Byt w' v' (streamB key n) ∧ Below w.heap.size w w' := by
  by_cases h0 : n = 0
  · subst h0
    refine (stream_no a _ c 0 (.inl (by omega)) w).mono ?_
    rintro _ w' ⟨rfl, hb⟩
    exact ⟨_, rfl, by simp [streamB]; exact Byt.nil _, hb⟩
  · refine (stream_yes a c key n (by omega) hn w hk hkl).mono ?_
    rintro _ w' ⟨v', rfl, ho, hb⟩
    exact ⟨v', rfl, ho.byt, hb⟩
set_option maxRecDepth 100000 in
set_option maxHeartbeats 2000000 in
theorem streams_main (kv : Value) (key : List UInt8) (n at_ : Int) (w : World) (hk : Byt w kv key) (hn : -9223372036854775808 ≤ n ∧ n ≤ 9223372036854775807) (ha : -9223372036854775808 ≤ at_ ∧ at_ ≤ 9223372036854775807) (h0 : key.length ≤ 60) :
    Calls Try.prog 11 #[kv, .int .i64 n, .int .i64 at_] w fun e w' => e = .returned (.bool true) ∧ Below w.heap.size w w' := by
  have HK := Lib.hid hk
  obtain ⟨ka, kc, rfl, hkc, hkm⟩ := hk.len
  unfold maxLen at hkm
  clear hk
  have h0' : ¬ ((60 : Int) < (key.length : Int)) := by omega
  go_enter Try.func11, Try.ntmps11
  go_wp2_with fail
  refine (known_any _).mono ?_
  rintro _ w1 ⟨rfl, hbw1⟩
  go_wp2_with fail
  refine (within_nat n _ hn (by omega) (by omega) _).mono ?_
  rintro _ wx ⟨k, rfl, -, hk, rfl⟩
  have hk' : k < 100 := by omega
  clear hk
  go_wp2_with fail
  refine (stream_any ka kc key k (by omega) _ (HK.out.ext hbw1) (by omega)).mono ?_
  rintro _ w2 ⟨sv, rfl, hS, hb2⟩
  have hbw2 := hbw1.trans (hb2.mono hbw1.size)
  clear hbw1 hb2
  obtain ⟨sa, sc, rfl, hsc, hsm⟩ := hS.len
  unfold maxLen at hsm
  have hsl := streamB_length key k
  have HSB : Hid (∀ i j, j < 16 → 16 * i + j < k → (streamB key k)[16 * i + j]? = (macB key [eight (i : Int)])[j]?) := Lib.hid (fun i j => streamB_at key k i j)
  rw [hsl] at hsc hS
  generalize streamB key k = S at *
  have hne : (((k : Int)) != (k : Int)) = false := by simp
  have hq0 : (0 : Int) ≤ (k : Int) / 16 := by omega
  have hq1 : (k : Int) / 16 ≤ 100 := by omega
  go_wp2_with fail
  refine (within_nat at_ _ ha (by omega) (by omega) _).mono ?_
  rintro _ wy ⟨i, rfl, -, hi, rfl⟩
  have hi' : i ≤ 7 := by omega
  clear hi
  go_wp2_with fail
  refine (eight_any i _).mono ?_
  rintro _ w3 ⟨ev, rfl, hE0, hb3⟩
  have hE := hE0.byt
  obtain ⟨ea, ec, rfl, hec, hem⟩ := hE.len
  unfold maxLen at hem
  clear hE0
  have hS3 := hS.ext hb3
  have hK3 := (HK.out.ext hbw2).ext hb3
  have hbw3 := hbw2.trans (hb3.mono hbw2.size)
  clear hS hb3 hbw2
  go_wp2_with fail
  refine (mac_any _ _ key [eight (i : Int)] _ (hK3.ext ((Below.refl _ _).alloc (Nat.le_refl _) _)) (Lst.one hE) (by omega) (len1 (by rw [eight_length]; decide))).mono ?_
  rintro _ w4 ⟨rfl, hb4⟩
  have hb3a := (Below.refl w3.heap.size w3).alloc (Nat.le_refl _) (.cells #[.slice ea (eight (i : Int)).length ec] 29)
  have hb34 := hb3a.trans (hb4.mono hb3a.size)
  have hS4 := hS3.ext hb34
  have hbw4 := hbw3.trans (hb34.mono hbw3.size)
  clear hb3a hb34
  clear hS3 hK3 hb4 hbw3 hE hec hem
  obtain ⟨A, hA⟩ : ∃ A, A = macB key [eight (i : Int)] := ⟨_, rfl⟩
  have hAl : A.length = 16 := by rw [hA]; exact macB_length _ _
  have HM : Hid (∀ j, j < 16 → 16 * i + j < k → S[16 * i + j]? = A[j]?) := Lib.hid (fun j h1 h2 => by rw [HSB.out i j h1 h2, hA])
  rw [← hA]
  clear hA HSB
  go_wp2_with (refine (show wpList _ _ _ (⟨none, .store 35 (.tmp 10) (.tmp 35), _, _, _, _⟩ :: _) _ _ from stop_here ?_))
  obtain ⟨h0c, h1c⟩ : (Try.prog.info? 35).map (·.size) = some (A.map B).toArray.size ∧ ((List.replicate 16 (0 : UInt8)).map B).toArray.size = (A.map B).toArray.size := ⟨by rw [show (A.map B).toArray.size = 16 by simp [hAl]]; kernel_rfl, by simp [hAl]⟩
  refine Stop.go (wpList_store_blk rfl rfl rfl rfl (Blk.new w4 _ 35) h1c h0c (bytes_one _) ?_)
  intro w5 hS5 hO5
  have hb5 : Below w4.heap.size w4 w5 := ((Below.refl _ _).alloc (Nat.le_refl _) _).trans (hO5.below (Nat.le_refl _) (by simp))
  have hR5 := hS4.ext hb5
  have hbw5 := hbw4.trans (hb5.mono hbw4.size)
  clear hS4 hO5 hb5 hbw4
  go_wp2
  go_loopw [11] (fun b wr => ∃ j : Nat, j ≤ 16 ∧ b = .int .i64 j ∧ Byt wr (.slice sa k sc) S ∧ Blk wr w4.heap.size (A.map B).toArray 35 ∧ Below w.heap.size w wr) (fun b _ => (16 - intOf b).toNat)
  case atStart => exact ⟨0, by omega, rfl, hR5, hS5, hbw5⟩
  case round =>
    clear hR5 hS5 hbw5
    obtain ⟨j, hj, rfl, hR, hA, hbw⟩ := hrel
    by_cases hlt : j < 16
    · by_cases hlk : 16 * i + j < k
      · have hlt' : (j : Int) < 16 := by omega
        have hlk' : 16 * (i : Int) + (j : Int) < (k : Int) := by omega
        go_wp2
        obtain ⟨y, hy⟩ : ∃ y, A[j]? = some y := ⟨_, List.getElem?_eq_getElem (by omega)⟩
        have hsy : S[16 * i + j]? = some y := (HM.out j hlt hlk).trans hy
        have hcA : wr.cell? ⟨w4.heap.size, 0 + j, none⟩ = some (B y) := by rw [Nat.zero_add, hA.cell]; simp [hy]
        have HR := Lib.hid hR
        rcases hR with ⟨_, h0⟩ | ⟨sg, so, scap, he, _, _, _, hc⟩
        · rw [h0] at hsy; cases hsy
        rw [hsl] at he
        simp only [Value.slice.injEq, true_and] at he
        obtain ⟨rfl, rfl⟩ := he
        have hcS := hc _ _ hsy
        clear hc
        have hij : (16 * i + j : Nat) < k := hlk
        refine wp_region_VE (bt := 5) (fun _ => true) (fun ix => (lookL [.slice (some ⟨sg, so, none⟩) k sc, .int .i64 i, .int .i64 (16 * (i : Int)), .int .i64 j, .int .i64 (16 * (i : Int) + (j : Int)), .pointer (some ⟨sg, so + (16 * i + j), none⟩), B y, .int .i64 j, .pointer (some ⟨w4.heap.size, 0 + j, none⟩), B y, .bool false] ix).getD undef) (fun _ _ _ => True) (by kernel_rfl) (by kernel_rfl) (by kernel_rfl) (fun _ _ _ _ _ _ => trivial) fun x => ?_
        refine VE_ex (v := .slice (some ⟨sg, so, none⟩) k sc) rfl rfl rfl (fun u hu hf => r_move (rho_base rfl rfl)) ?_
        refine VE_ex (v := .int .i64 i) rfl rfl rfl (fun u hu hf => r_move (rho_base rfl rfl)) ?_
        refine VE_ex (v := .int .i64 (16 * (i : Int))) rfl rfl rfl (fun u hu hf => r_mulI rho_const (rho_env rfl) ⟨rfl, by omega⟩) ?_
        refine VE_ex (v := .int .i64 j) rfl rfl rfl (fun u hu hf => r_move (rho_base rfl rfl)) ?_
        refine VE_ex (v := .int .i64 (16 * (i : Int) + (j : Int))) rfl rfl rfl (fun u hu hf => r_addI (rho_env rfl) (rho_env rfl) ⟨rfl, by omega⟩) ?_
        refine VE_ex (v := .pointer (some ⟨sg, so + (16 * i + j), none⟩)) rfl rfl rfl (fun u hu hf => r_indexSl (rho_env rfl) (rho_env rfl) (by kernel_rfl) ⟨by omega, by omega, by omega⟩) ?_
        refine VE_ex (v := B y) rfl rfl rfl (fun u hu hf => r_load (rho_env rfl) (by kernel_rfl) (hu.cell hcS)) ?_
        refine VE_ex (v := .int .i64 j) rfl rfl rfl (fun u hu hf => r_move (rho_base rfl rfl)) ?_
        refine VE_ex (v := .pointer (some ⟨w4.heap.size, 0 + j, none⟩)) rfl rfl rfl (fun u hu hf => r_indexArr (rho_base rfl rfl) (rho_env rfl) (by kernel_rfl) ⟨by omega, by omega, by omega⟩) ?_
        refine VE_ex (v := B y) rfl rfl rfl (fun u hu hf => r_load (rho_env rfl) (by kernel_rfl) (hu.cell hcA)) ?_
        refine VE_ex (v := .bool false) rfl rfl rfl (fun u hu hf => r_neqB (rho_env rfl) (rho_env rfl)) ?_
        refine VE_nil fun u hu hf => ?_
        rw [withEnv_norm (rfl : setsL _ 0 _ = [_, _, _, _, _, _, _, _, _, _, _, _, _, _, _, _, _, _, _, _, _, _, _, _, _, _, _, _, _, _, _, _, _, _, _, _, _, _, _, _, _, _, _, _, _, _, _, _, _, _, _, _, _, _, _, _, _, _, _])]
        have hR' := HR.out.extM hu
        have hA' := hA.extM (by decide) hu
        have hbw' := hbw.trans (hu.below.mono hbw.size)
        clear hA hbw hu hf hcA hcS
        go_wp2
        go_roundw
        case rel => exact ⟨j + 1, by omega, by go_num, hR', hA', hbw'⟩
        case measure => simp [intOf]; omega
      · have hlt' : (j : Int) < 16 := by omega
        have hlk' : ¬ 16 * (i : Int) + (j : Int) < (k : Int) := by omega
        go_wp2
        go_ret
        exact ⟨rfl, hbw⟩
    · have hge : ¬ ((j : Int) < 16) := by omega
      go_wp2
      go_ret
      exact ⟨rfl, hbw⟩
set_option maxHeartbeats 1000000 in
theorem streams_any (kv : Value) (key : List UInt8) (n at_ : Int) (w : World) (hk : Byt w kv key) (hn : -9223372036854775808 ≤ n ∧ n ≤ 9223372036854775807) (ha : -9223372036854775808 ≤ at_ ∧ at_ ≤ 9223372036854775807) :
    Calls Try.prog 11 #[kv, .int .i64 n, .int .i64 at_] w fun e w' => e = .returned (.bool true) ∧ Below w.heap.size w w' := by
  by_cases h0 : key.length ≤ 60
  · exact streams_main kv key n at_ w hk hn ha h0
  obtain ⟨ka, kc, rfl, hkc, hkm⟩ := hk.len
  unfold maxLen at hkm
  have h0' : (60 : Int) < (key.length : Int) := by omega
  go_enter Try.func11, Try.ntmps11
  go_wp2_with fail
  refine (known_any _).mono ?_
  rintro _ w1 ⟨rfl, hbw⟩
  go_wp2
  go_ret
  exact ⟨rfl, hbw⟩
end Go.Proofs.Ytbbpcgodjncflaa
