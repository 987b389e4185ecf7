/-
  A part of the proofs of this seat: laws of the walk, or contracts of the functions that the statements reach. No conditions but those that each theorem names.
-/
import Derived.Test.YthpjihiikkhcjaaMm
namespace Go.Proofs.Ythpjihiikkhcjaa
open Go.RowKit Go.Sp
theorem arA35 : ArrI Try.prog 65 16 .u8 := ⟨⟨5, Try.underlying65, by kernel_rfl, by kernel_rfl, Try.underlying5⟩, by kernel_rfl⟩
theorem arA25 : ArrI Try.prog 25 8 .u32 := ⟨⟨24, Try.underlying25, by kernel_rfl, by kernel_rfl, Try.underlying24⟩, by kernel_rfl⟩
theorem sl1_29 : Sl1 Try.prog 23 5 := ⟨Try.underlying23, by obtain ⟨i, h1, _, h3, _⟩ := byt29.info; exact ⟨i, h1, h3⟩⟩
set_option maxHeartbeats 400000 in
theorem within_any (a n : Int) (ha : -9223372036854775808 ≤ a ∧ a ≤ 9223372036854775807) (hn : 0 < n) (hn' : n ≤ 4611686018427387904) (w : World) :
    Calls Try.prog 18 #[.int .i64 a, .int .i64 n] w fun e w' => e = .returned (.int .i64 (a % n)) ∧ w = w' := by
  have hz : ¬ n = 0 := by omega
  obtain ⟨h1, h2⟩ := ha
  rcases tmod_cases a n hn with ⟨h, he⟩ | ⟨h, he, h3⟩
  · have HE := Lib.hid he
    have hlt : ¬ a.tmod n < 0 := by omega
    clear he
    go_enter Try.func18, Try.ntmps18
    go_wp2
    go_ret
    exact ⟨by rw [← HE.out]; rfl, rfl⟩
  · have HE := Lib.hid he
    clear he
    go_enter Try.func18, Try.ntmps18
    go_wp2
    go_ret
    exact ⟨by rw [← HE.out]; rfl, rfl⟩
theorem within_nat (a n : Int) (ha : -9223372036854775808 ≤ a ∧ a ≤ 9223372036854775807) (hn : 0 < n) (hn' : n ≤ 4611686018427387904) (w : World) :
    Calls Try.prog 18 #[.int .i64 a, .int .i64 n] w fun e w' => ∃ q : Nat, e = .returned (.int .i64 q) ∧ (q : Int) = a % n ∧ (q : Int) < n ∧ w = w' :=
  (within_any a n ha hn hn' w).mono fun e w' ⟨he, hw⟩ => by
    have h1 := Int.emod_nonneg a (b := n) (by omega)
    have h2 := Int.emod_lt_of_pos a hn
    exact ⟨(a % n).toNat, by rw [he]; congr 2; omega, by omega, by omega, hw⟩
/-- Equal sums compare as equal. -/
theorem eq35 (L : List UInt8) (h : L.length = 16) (w : World) : (binOp .eql 65 (.agg (L.map B).toArray) (.agg (L.map B).toArray)).run Try.prog w = .ok (.bool true) w := by
  have := run_eql_ints (P := Try.prog) w arA35 (L.map Ub) (L.map Ub) (by simpa) (by simpa)
  rw [← mapB_ints] at this
  rw [this]; simp
theorem ne35 (L : List UInt8) (h : L.length = 16) (w : World) : (binOp .neq 65 (.agg (L.map B).toArray) (.agg (L.map B).toArray)).run Try.prog w = .ok (.bool false) w := by
  have h1 := eq35 L h w
  rw [run_eql_struct] at h1
  rw [run_neq_struct]
  generalize (Op.equalIn 10000 65 (.agg (L.map B).toArray) (.agg (L.map B).toArray)).run Try.prog w = r at *
  cases r with
  | ok b w' => simp only [Result.andThen_ok, Result.ok.injEq, Value.bool.injEq] at h1 ⊢; obtain ⟨rfl, rfl⟩ := h1; exact ⟨rfl, rfl⟩
  | halt x w' => simp [Result.andThen] at h1
theorem gd35 (op : BinOp) (x y : Operand) (A A' : Array Value) (w : World) : (eqGuard op 65 x y (.agg A) (.agg A')).run Try.prog w = .ok () w := run_eqGuard_agg w op 65 x y A A' arA35.guard
theorem r_neq35 {ρ : Operand → Value} {d : Option Tmp} {ty t' : TypeId} {pos : String} {aft : Array Edge} {g : Option (Nat × Bool)} {x y : Operand} {L : List UInt8} (w : World) (hx : ρ x = .agg (L.map B).toArray) (hy : ρ y = .agg (L.map B).toArray) (h : L.length = 16) :
    (execOp ρ ⟨d, .binOp .neq 65 x y t', ty, pos, aft, g⟩).run Try.prog w = .ok (.value (.bool false)) w := by
  simp only [execOp, hx, hy, Sem.run_bind, gd35, ne35 L h w, Result.andThen_ok, Sem.run_pure]
end Go.Proofs.Ythpjihiikkhcjaa
