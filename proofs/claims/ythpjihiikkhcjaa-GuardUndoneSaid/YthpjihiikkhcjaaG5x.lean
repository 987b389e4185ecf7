/-
  A part of the proofs of this seat: laws of the walk, or contracts of the functions that the statements reach. No conditions but those that each theorem names.
-/
import Derived.Test.YthpjihiikkhcjaaG3x
import Derived.ScopeJumps
import Derived.WalkMore
namespace Go.Sp
open Go.RowKit
/-- One byte more of a number. -/
def stp (m : Int) (y : UInt8) : Int := bits .or .i64 (wrap64 (m * 256)) (y.toNat : Int)
/-- The number that bytes are. -/
def numB (l : List UInt8) : Int := l.foldl stp 0
theorem numB_take (l : List UInt8) (k : Nat) (y : UInt8) (h : l[k]? = some y) : numB (l.take (k + 1)) = stp (numB (l.take k)) y := by
  unfold numB
  rw [List.take_add_one, h, List.foldl_append]; rfl
/-- May these bytes be a name? -/
def namedM (l : List UInt8) : Bool := (l.all fun y => decide (33 ≤ y.toNat ∧ y.toNat ≤ 126)) && decide (1 ≤ l.length ∧ l.length ≤ 16)
end Go.Sp
namespace Go.Proofs.Ythpjihiikkhcjaa
open Go.RowKit Go.Sp
set_option maxHeartbeats 2000000 in
theorem gnumber_any (v : Value) (l : List UInt8) (w : World) (hv : Byt w v l) (hl : l.length ≤ 100) :
    Calls Try.prog 40 #[v] w fun e w' => e = .returned (.int .i64 (numB l)) ∧ Below w.heap.size w w' := by
  have HV := Lib.hid hv
  obtain ⟨va, vc, rfl, hvc, hvm⟩ := hv.len
  unfold maxLen at hvm
  go_enter Try.func40, Try.ntmps40
  go_wp2
  go_loopw [8, 3] (fun i n wr => ∃ (k : Nat) (m : Int), k ≤ l.length ∧ i = .int .i64 k ∧ n = .int .i64 m ∧ m = numB (l.take k) ∧ Below w.heap.size w wr) (fun i _ _ => (l.length - intOf i).toNat)
  case atStart => exact ⟨0, 0, by omega, rfl, rfl, rfl, Below.refl _ _⟩
  case round =>
    obtain ⟨k, m, hk, rfl, rfl, hm, hbw⟩ := hrel
    have HM := Lib.hid hm
    clear hm
    by_cases hlt : k < l.length
    · have hlt' : (k : Int) < (l.length : Int) := by omega
      have hk0 : (0 : Int) ≤ k := by omega
      obtain ⟨y, hy⟩ : ∃ y, l[k]? = some y := ⟨_, List.getElem?_eq_getElem hlt⟩
      rcases HV.out with ⟨_, h0⟩ | ⟨g, off, cap, he, _, _, hg, hc⟩
      · rw [h0] at hy; cases hy
      simp only [Value.slice.injEq, true_and] at he
      obtain ⟨rfl, rfl⟩ := he
      have hcy : wr.cell? ⟨g, off + k, none⟩ = some (B y) := (World.cell?_of_block (a := ⟨g, off + k, none⟩) (hbw.block g hg)).trans (hc k y hy)
      have HS := Lib.hid (numB_take l k y hy)
      clear hc hy
      go_wp2
      go_roundw
      case rel => exact ⟨k + 1, _, by omega, by go_num, rfl, by rw [HS.out, ← HM.out]; rfl, hbw⟩
      case measure => simp [intOf]; omega
    · obtain rfl : k = l.length := by omega
      go_wp2
      go_ret
      exact ⟨by rw [HM.out, List.take_length]; rfl, hbw⟩
theorem pf40 : plainFn Try.prog 40 = true := by kernel_rfl
def J41 (l : List UInt8) (w : World) (a : Act) (w' : World) : Prop :=
  w' = w ∧ ∃ (k : Nat) (u4 u5 u6 u7 u8 u9 u10 u11 u12 u13 u14 u15 u16 u17 u18 u19 u20 u21 u22 u23 u24 u25 u26 u27 u28 u29 u30 u31 u32 u33 : Value), k ≤ l.length ∧ (∀ i y, i < k → l[i]? = some y → 33 ≤ y.toNat ∧ y.toNat ≤ 126) ∧ a = { tmps := #[.string ⟨l.toArray⟩, undef, .bool false, .int .i64 k, u4, u5, u6, u7, u8, u9, u10, u11, u12, u13, u14, u15, u16, u17, u18, u19, u20, u21, u22, u23, u24, u25, u26, u27, u28, u29, u30, u31, u32, u33], defers := [] }
theorem named_false (l : List UInt8) (k : Nat) (h : k < l.length) (hb : ¬ (33 ≤ l[k].toNat ∧ l[k].toNat ≤ 126)) : namedM l = false := by
  unfold namedM
  have : (l.all fun y => decide (33 ≤ y.toNat ∧ y.toNat ≤ 126)) = false := by
    rw [List.all_eq_false]
    exact ⟨l[k], List.getElem_mem h, by simpa using hb⟩
  rw [this]; rfl
theorem named_true (l : List UInt8) (h : ∀ i y, i < l.length → l[i]? = some y → 33 ≤ y.toNat ∧ y.toNat ≤ 126) : namedM l = decide (1 ≤ l.length ∧ l.length ≤ 16) := by
  unfold namedM
  have : (l.all fun y => decide (33 ≤ y.toNat ∧ y.toNat ≤ 126)) = true := by
    rw [List.all_eq_true]
    intro y hy
    obtain ⟨i, hi, rfl⟩ := List.getElem_of_mem hy
    simpa using h i _ hi (List.getElem?_eq_getElem hi)
  rw [this]; rfl
set_option maxHeartbeats 4000000 in
theorem named_any (l : List UInt8) (w : World) (hl : l.length ≤ 1000000) :
    Calls Try.prog 41 #[.string ⟨l.toArray⟩] w fun e w' => e = .returned (.bool (namedM l)) ∧ w' = w := by
  obtain ⟨R, hR⟩ : ∃ R, R = namedM l := ⟨_, rfl⟩
  rw [← hR]
  have HR := Lib.hid hR
  clear hR
  go_enter Try.func41, Try.ntmps41
  go_wp2
  refine (fun (hp : ∀ a w', J41 l w a w' → Code.wp Try.prog _ (Exit.jump 0 (fun a'' w'' => J41 l w a'' w'' ∧ (l.length - intOf (a''.tmps.getD 3 undef)).toNat < (l.length - intOf (a.tmps.getD 3 undef)).toNat) _) a w') => wp_scope_jumps (rest := Code.skip.seq _) 0 (J41 l w) (fun a' _ => (l.length - intOf (a'.tmps.getD 3 undef)).toNat) rfl ?_ (fun a w' h => wp_seq (wp_skip (hp a w' h)))) ?_
  · go_wp2
    go_step3
    rename_i K hK
    simp only [Exit.then]
    refine hK _ _ ?_
    refine wp_mono (hp { tmps := #[.string ⟨l.toArray⟩, undef, .bool false, .int .i64 0, undef, undef, undef, undef, undef, undef, undef, undef, undef, undef, undef, undef, undef, undef, undef, undef, undef, undef, undef, undef, undef, undef, undef, undef, undef, undef, undef, undef, undef, undef], defers := [] } w ⟨rfl, 0, _, _, _, _, _, _, _, _, _, _, _, _, _, _, _, _, _, _, _, _, _, _, _, _, _, _, _, _, _, _, Nat.zero_le _, fun i y hi => by omega, rfl⟩) fun e a1 w1 h => ?_
    cases e <;> first | exact h | exact ⟨h.1, h.2.1⟩
  · rintro a' w' ⟨rfl, k, u4, u5, u6, u7, u8, u9, u10, u11, u12, u13, u14, u15, u16, u17, u18, u19, u20, u21, u22, u23, u24, u25, u26, u27, u28, u29, u30, u31, u32, u33, hk, hall, rfl⟩
    have hsz : (⟨l.toArray⟩ : ByteArray).size = l.length := rfl
    have HALL := Lib.hid hall
    clear hall
    by_cases hlt : k < l.length
    · have hlt' : (k : Int) < (l.length : Int) := by omega
      have hne : ((k : Int) == (l.length : Int)) = false := by simp; omega
      by_cases h1 : (33 : Int) ≤ ((⟨l.toArray⟩ : ByteArray)[k]'hlt).toNat
      · by_cases h2 : (((⟨l.toArray⟩ : ByteArray)[k]'hlt).toNat : Int) ≤ 126
        · have hall' : ∀ i y, i < k + 1 → l[i]? = some y → 33 ≤ y.toNat ∧ y.toNat ≤ 126 := fun i y hi hy => by
            by_cases e : i = k
            · subst e
              rw [List.getElem?_eq_getElem hlt] at hy
              cases hy
              have e1 : ((⟨l.toArray⟩ : ByteArray)[i]'hlt) = l[i] := rfl
              rw [e1] at h1 h2
              omega
            · exact HALL.out i y (by omega) hy
          have HALL' := Lib.hid hall'
          clear hall'
          go_wp2
          go_step3
          refine ⟨rfl, ⟨rfl, k + 1, _, _, _, _, _, _, _, _, _, _, _, _, _, _, _, _, _, _, _, _, _, _, _, _, _, _, _, _, _, _, by omega, HALL'.out, by simp only [Int.natCast_add, Int.natCast_one]; rfl⟩, by simp [intOf]; omega⟩
        · have hf : R = false := by rw [HR.out]; exact named_false l k hlt (fun h => h2 (by have e1 : ((⟨l.toArray⟩ : ByteArray)[k]'hlt) = l[k] := rfl; rw [e1]; omega))
          have HF := Lib.hid hf
          clear hf
          go_wp2
          simp only [Exit.jump]
          go_ret
          exact ⟨by rw [HF.out]; rfl, rfl⟩
      · have hf : R = false := by rw [HR.out]; exact named_false l k hlt (fun h => h1 (by have e1 : ((⟨l.toArray⟩ : ByteArray)[k]'hlt) = l[k] := rfl; rw [e1]; omega))
        have HF := Lib.hid hf
        clear hf
        go_wp2
        simp only [Exit.jump]
        go_ret
        exact ⟨by rw [HF.out]; rfl, rfl⟩
    · obtain rfl : k = l.length := by omega
      have HT : Hid (R = decide (1 ≤ l.length ∧ l.length ≤ 16)) := Lib.hid (by rw [HR.out]; exact named_true l HALL.out)
      by_cases h3 : (1 : Int) ≤ (l.length : Int)
      · by_cases h4 : (l.length : Int) ≤ 16
        · have HF : Hid (R = true) := Lib.hid (by rw [HT.out]; simp; omega)
          go_wp2
          simp only [Exit.jump]
          go_ret
          exact ⟨by rw [HF.out]; rfl, rfl⟩
        · have HF : Hid (R = false) := Lib.hid (by rw [HT.out]; simp; omega)
          go_wp2
          simp only [Exit.jump]
          go_ret
          exact ⟨by rw [HF.out]; rfl, rfl⟩
      · have HF : Hid (R = false) := Lib.hid (by rw [HT.out]; simp; omega)
        go_wp2
        simp only [Exit.jump]
        go_ret
        exact ⟨by rw [HF.out]; rfl, rfl⟩
theorem pf41 : plainFn Try.prog 41 = true := by kernel_rfl
end Go.Proofs.Ythpjihiikkhcjaa
