/-
  A part of the proofs of this seat: laws of the walk, or contracts of the functions that the statements reach. No conditions but those that each theorem names.
-/
import Derived.WalkKit
import Derived.WalkSpells
import Derived.WalkLawsBesides
import Derived.Lib.Hide
namespace Go.Sp
open Go.RowKit

/-- A word of 32 bits, as the machine holds it. -/
def U (x : UInt32) : Int := (x.toNat : Int)
abbrev W (x : UInt32) : Value := .int .u32 (U x)
/-- A byte, as the machine holds it. -/
def Ub (x : UInt8) : Int := (x.toNat : Int)
abbrev B (x : UInt8) : Value := .int .u8 (Ub x)
theorem U_bounds (x : UInt32) : 0 ≤ U x ∧ U x < 4294967296 := by have := x.toNat_lt; unfold U; omega
theorem Ub_bounds (x : UInt8) : 0 ≤ Ub x ∧ Ub x < 256 := by have := x.toNat_lt; unfold Ub; omega
theorem U_inj (x y : UInt32) : U x = U y ↔ x = y := by unfold U; rw [Int.natCast_inj, UInt32.toNat_inj]
theorem Ub_inj (x y : UInt8) : Ub x = Ub y ↔ x = y := by unfold Ub; rw [Int.natCast_inj, UInt8.toNat_inj]
@[go_sem] theorem U_beq (x y : UInt32) : (U x == U y) = (x == y) := by rw [Bool.eq_iff_iff, beq_iff_eq, beq_iff_eq, U_inj]
@[go_sem] theorem Ub_beq (x y : UInt8) : (Ub x == Ub y) = (x == y) := by rw [Bool.eq_iff_iff, beq_iff_eq, beq_iff_eq, Ub_inj]

theorem u32_lt (x : UInt32) : x.toNat < 4294967296 := x.toNat_lt
theorem u8_lt (x : UInt8) : x.toNat < 256 := x.toNat_lt
theorem W_ofInt (n : Int) (h0 : 0 ≤ n) (h1 : n < 4294967296) : Value.int .u32 n = W (UInt32.ofNat n.toNat) := by
  unfold W U
  rw [UInt32.toNat_ofNat', Nat.mod_eq_of_lt (by omega)]
  congr 1; omega
theorem B_ofInt (n : Int) (h0 : 0 ≤ n) (h1 : n < 256) : Value.int .u8 n = B (UInt8.ofNat n.toNat) := by
  unfold B Ub
  rw [UInt8.toNat_ofNat', Nat.mod_eq_of_lt (by omega)]
  congr 1; omega

section
variable (t : TypeId) (x y : UInt32)
theorem wrap_add : IntKind.u32.wrap ((x.toNat : Int) + (y.toNat : Int)) = ((x + y).toNat : Int) := by
  rw [IntKind.wrap_u32', UInt32.toNat_add]; omega
theorem wrap_sub : IntKind.u32.wrap ((x.toNat : Int) - (y.toNat : Int)) = ((x - y).toNat : Int) := by
  rw [IntKind.wrap_u32', UInt32.toNat_sub]; have := u32_lt x; have := u32_lt y; omega
theorem wrap_mul : IntKind.u32.wrap ((x.toNat : Int) * (y.toNat : Int)) = ((x * y).toNat : Int) := by
  rw [IntKind.wrap_u32', UInt32.toNat_mul, Int.natCast_emod, Int.natCast_mul]; rfl
@[go_sem high] theorem binOp_add_W : binOp .add t (W x) (W y) = pure (W (x + y)) := by
  unfold W U; rw [binOp_add]; simp only [Op.intArith, wrap_add]
@[go_sem high] theorem binOp_sub_W : binOp .sub t (W x) (W y) = pure (W (x - y)) := by
  unfold W U; rw [binOp_sub]; simp only [Op.intArith, wrap_sub]
@[go_sem high] theorem binOp_mul_W : binOp .mul t (W x) (W y) = pure (W (x * y)) := by
  unfold W U; rw [binOp_mul]; simp only [Op.intArith, wrap_mul]
@[go_sem high] theorem binOp_xor_W : binOp .xor t (W x) (W y) = pure (W (x ^^^ y)) := by
  unfold W U; rw [binOp_xor, intBits_xor, u32_xor_nat _ _ (u32_lt x) (u32_lt y), UInt32.toNat_xor]
@[go_sem high] theorem binOp_or_W : binOp .or t (W x) (W y) = pure (W (x ||| y)) := by
  unfold W U; rw [binOp_or, intBits_or, u32_or_nat _ _ (u32_lt x) (u32_lt y), UInt32.toNat_or]
@[go_sem high] theorem binOp_and_W : binOp .and t (W x) (W y) = pure (W (x &&& y)) := by
  unfold W U; rw [binOp_and, intBits_and, u32_and_nat _ _ (u32_lt x) (u32_lt y), UInt32.toNat_and]
end
section
variable (t : TypeId) (x y : UInt8)
@[go_sem high] theorem binOp_xor_B : binOp .xor t (B x) (B y) = pure (B (x ^^^ y)) := by
  unfold B Ub; rw [binOp_xor, intBits_xor, u8_xor_nat _ _ (u8_lt x) (u8_lt y), UInt8.toNat_xor]
@[go_sem high] theorem binOp_or_B : binOp .or t (B x) (B y) = pure (B (x ||| y)) := by
  unfold B Ub; rw [binOp_or, intBits_or, u8_or_nat _ _ (u8_lt x) (u8_lt y), UInt8.toNat_or]
@[go_sem high] theorem binOp_and_B : binOp .and t (B x) (B y) = pure (B (x &&& y)) := by
  unfold B Ub; rw [binOp_and, intBits_and, u8_and_nat _ _ (u8_lt x) (u8_lt y), UInt8.toNat_and]
@[go_sem high] theorem binOp_add_B : binOp .add t (B x) (B y) = pure (B (x + y)) := by
  unfold B Ub; rw [binOp_add]; simp only [Op.intArith]; rw [show IntKind.u8.wrap ((x.toNat : Int) + (y.toNat : Int)) = ((x + y).toNat : Int) from by rw [IntKind.wrap_u8', UInt8.toNat_add]; omega]
end
section
variable {P : Program} (w : World) (src dst : TypeId)
theorem UInt32.ofInt_toNat (n : Int) : ((UInt32.ofInt n).toNat : Int) = n % 4294967296 := by
  unfold UInt32.ofInt
  rw [UInt32.toNat_ofNat']; omega
theorem UInt8.ofInt_toNat (n : Int) : ((UInt8.ofInt n).toNat : Int) = n % 256 := by
  unfold UInt8.ofInt
  rw [UInt8.toNat_ofNat']; omega
/-- A number, cut to a word, to a byte. -/
def w32 (n : Int) : UInt32 := UInt32.ofInt n
def b8 (n : Int) : UInt8 := UInt8.ofInt n
theorem run_convert_to (k k' : IntKind) (n : Int) (d : TypeDesc) (hs : P.underlying src = some d) (hd : P.underlying dst = some (.int k')) :
    (convert src dst (.int k n)).run P w = .ok (.int k' (k'.wrap n)) w := by
  simp [convert, run_underlying hs, run_underlying hd, Conv.intToInt]
theorem isSome_ex {α : Type} {o : Option α} (h : o.isSome = true) : ∃ d, o = some d := Option.isSome_iff_exists.mp h
@[go_sem high] theorem run_convert_u32 (k : IntKind) (n : Int) (hs : (P.underlying src).isSome = true) (hd : P.underlying dst = some (.int .u32)) :
    (convert src dst (.int k n)).run P w = .ok (W (w32 n)) w := by
  obtain ⟨d, hs⟩ := isSome_ex hs
  rw [run_convert_to w src dst k .u32 n d hs hd, IntKind.wrap_u32', ← UInt32.ofInt_toNat]; rfl
@[go_sem high] theorem run_convert_u8 (k : IntKind) (n : Int) (hs : (P.underlying src).isSome = true) (hd : P.underlying dst = some (.int .u8)) :
    (convert src dst (.int k n)).run P w = .ok (B (b8 n)) w := by
  obtain ⟨d, hs⟩ := isSome_ex hs
  rw [run_convert_to w src dst k .u8 n d hs hd, IntKind.wrap_u8', ← UInt8.ofInt_toNat]; rfl
@[go_sem high] theorem run_convert_W_u8 (x : UInt32) (hs : (P.underlying src).isSome = true) (hd : P.underlying dst = some (.int .u8)) :
    (convert src dst (W x)).run P w = .ok (B x.toUInt8) w := by
  obtain ⟨d, hs⟩ := isSome_ex hs
  unfold W U
  rw [run_convert_to w src dst .u32 .u8 _ d hs hd, IntKind.wrap_u8']
  unfold B Ub; congr 2
@[go_sem high] theorem run_convert_B_u32 (x : UInt8) (hs : (P.underlying src).isSome = true) (hd : P.underlying dst = some (.int .u32)) :
    (convert src dst (B x)).run P w = .ok (W x.toUInt32) w := by
  obtain ⟨d, hs⟩ := isSome_ex hs
  unfold B Ub
  rw [run_convert_to w src dst .u8 .u32 _ d hs hd, IntKind.wrap_u32']
  unfold W U; congr 2; rw [UInt8.toNat_toUInt32]; have := u8_lt x; omega
@[go_sem high] theorem run_convert_B_int (x : UInt8) (hs : (P.underlying src).isSome = true) (hd : P.underlying dst = some (.int .i64)) :
    (convert src dst (B x)).run P w = .ok (.int .i64 (x.toNat : Int)) w := by
  obtain ⟨d, hs⟩ := isSome_ex hs
  unfold B Ub
  rw [run_convert_to w src dst .u8 .i64 _ d hs hd]
  congr 2; have := u8_lt x; simp only [IntKind.wrap, IntKind.bits, IntKind.signed]; simp; omega
end
/-- Turns of words. -/
def shl (x : UInt32) (n : Nat) : UInt32 := UInt32.ofNat (x.toNat * 2 ^ n)
def shr (x : UInt32) (n : Nat) : UInt32 := UInt32.ofNat (x.toNat / 2 ^ n)
@[go_sem high] theorem binOp_shl_W (t : TypeId) (x : UInt32) (k : IntKind) (n : Int) (h0 : 0 ≤ n) (h1 : n ≤ 32) : binOp .shl t (W x) (.int k n) = pure (W (shl x n.toNat)) := by
  unfold W U shl
  rw [binOp_shl, shift_shl_u32 k _ _ h0 h1, IntKind.wrap_u32', UInt32.toNat_ofNat']
  congr 2
@[go_sem high] theorem binOp_shr_W (t : TypeId) (x : UInt32) (k : IntKind) (n : Int) (h0 : 0 ≤ n) (h1 : n ≤ 32) : binOp .shr t (W x) (.int k n) = pure (W (shr x n.toNat)) := by
  unfold W U shr
  rw [binOp_shr, shift_shr_u32 k _ _ h0 h1, UInt32.toNat_ofNat']
  congr 2
  rw [Nat.mod_eq_of_lt (Nat.lt_of_le_of_lt (Nat.div_le_self _ _) (u32_lt x)), Int.natCast_ediv, Int.natCast_pow]; rfl
@[go_sem] theorem b8_U (x : UInt32) : b8 (U x) = x.toUInt8 := by
  rw [← UInt8.toNat_inj, UInt32.toNat_toUInt8]
  have := UInt8.ofInt_toNat (U x)
  unfold b8 U at *
  omega
@[go_sem] theorem w32_Ub (x : UInt8) : w32 (Ub x) = x.toUInt32 := by
  rw [← UInt32.toNat_inj, UInt8.toNat_toUInt32]
  have := UInt32.ofInt_toNat (Ub x)
  have := u8_lt x
  unfold w32 Ub at *
  omega
theorem w32_nat (n : Int) (h0 : 0 ≤ n) (h1 : n < 4294967296) : Value.int .u32 n = W (w32 n) := by
  unfold W U w32
  rw [UInt32.ofInt_toNat]; congr 1; omega
@[go_sem 9000] theorem binOp_xor_Wc (t : TypeId) (x : UInt32) (n : Int) (h0 : 0 ≤ n) (h1 : n < 4294967296) : binOp .xor t (W x) (.int .u32 n) = pure (W (x ^^^ w32 n)) := by
  rw [w32_nat n h0 h1, binOp_xor_W]
/-- Where the walk is to stand. -/
structure Stop (p : Prop) : Prop where
  out : p
theorem stop_here {p : Prop} (h : Stop p) : p := h.out
theorem Stop.go {p : Prop} (h : p) : Stop p := ⟨h⟩
end Go.Sp
