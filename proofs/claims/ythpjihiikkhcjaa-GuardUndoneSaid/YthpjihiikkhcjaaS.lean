/-
  A part of the proofs of this seat: laws of the walk, or contracts of the functions that the statements reach. No conditions but those that each theorem names.
-/
import Derived.Test.YthpjihiikkhcjaaR
namespace Go.Proofs.Ythpjihiikkhcjaa
open Go.RowKit Go.Sp
theorem pf30 : plainFn Try.prog 54 = true := by kernel_rfl
theorem on29' : oneT Try.prog 23 = true := by kernel_rfl
theorem sl39 : slOf Try.prog 42 = true := by kernel_rfl
def hd44 (i : Nat) : Bool := decide (i < 6) || (decide (8 ≤ i) && decide (i < 12))
def S44 (wr : World) (n m : Nat) (l xs : List UInt8) : List Value → World → Prop
  | [], u => u = wr.drew
  | [v], u => Below m wr u ∧ Own 5 m u v (eight l.length)
  | [_, v], u => Below n wr u ∧ Own 5 n u v (xs ++ eight l.length)
  | [_, _, v], u => Below n wr u ∧ Own 5 n u v (xs ++ eight l.length ++ l)
  | [_, _, v, v'], u => v' = v ∧ Below n wr u ∧ Own 5 n u v (xs ++ eight l.length ++ l)
  | _, _ => False
theorem r_append {P : Program} {w w' : World} {ρ : Operand → Value} {s x : Operand} {v u r : Value} {t1 t2 ty : TypeId} {pos : String} {aft : Array Edge} {g : Option (Nat × Bool)} {d : Option Tmp} (hs : ρ s = v) (hx : ρ x = u) (hr : (Builtin.append_ #[t1, t2] ty #[v, u]).run P w = .ok r w') :
    (execOp ρ ⟨d, .call { callee := .builtin .append, args := #[s, x], argTypes := #[t1, t2] }, ty, pos, aft, g⟩).run P w = .ok (.value r) w' := by
  unfold execOp
  simp only [resolve, invoke, builtin, Sem.run_bind, Sem.run_pure, Result.andThen_ok, List.map_toArray, List.map_cons, List.map_nil, hs, hx, hr]
theorem flat_le (ls : List (List UInt8)) (k : Nat) : (flat (ls.take k)).length ≤ (flat ls).length := by
  have h : flat ls = flat (ls.take k) ++ flat (ls.drop k) := by simp only [flat, ← List.flatMap_append, List.take_append_drop]
  rw [h, List.length_append]; omega
set_option maxRecDepth 100000 in
set_option maxHeartbeats 2000000 in
theorem parts_any (v : Value) (ls : List (List UInt8)) (w : World) (hL : Lst w v ls) (hfl : (flat ls).length ≤ 549755813888) :
    Calls Try.prog 56 #[v] w fun e w' => ∃ v', e = .returned v' ∧ Own 5 w.heap.size w' v' (flat ls) ∧ Below w.heap.size w w' := by
  have hlen : ∃ a c, v = .slice a ls.length c ∧ c ≤ maxLen ∧ ls.length ≤ c := by
    rcases hL with ⟨rfl, rfl⟩ | ⟨g, off, cap, rfl, h1, h2, _⟩
    · exact ⟨none, 0, rfl, by unfold maxLen; omega, by simp⟩
    · exact ⟨_, _, rfl, h2, h1⟩
  obtain ⟨a, c, rfl, hcm, hlc⟩ := hlen
  unfold maxLen at hcm
  have HLL := Lib.hid hL
  have HFL := Lib.hid hfl
  clear hL hfl
  go_enter Try.func56, Try.ntmps56
  go_wp2
  go_loopw [3, 4] (fun b i wr => ∃ k : Nat, k ≤ ls.length ∧ i = .int .i64 k ∧ Own 5 w.heap.size wr b (flat (ls.take k)) ∧ Below w.heap.size w wr) (fun _ i _ => (ls.length - intOf i).toNat)
  case atStart => exact ⟨0, by omega, rfl, Own.nil _ _ _, Below.refl _ _⟩
  case round =>
    obtain ⟨k, hk, rfl, ho, hb⟩ := hrel
    have hsz := hb.size
    by_cases hlt : k < ls.length
    · obtain ⟨l, hl⟩ : ∃ l, ls[k]? = some l := ⟨ls[k], by simp [hlt]⟩
      rcases HLL.out with ⟨_, rfl⟩ | ⟨g, off, cap, hv, _, _, hg, h4⟩
      · simp at hlt
      simp only [Value.slice.injEq, true_and] at hv
      obtain ⟨rfl, rfl⟩ := hv
      obtain ⟨u, hu, hub⟩ := h4 k l hl
      have hft : flat (ls.take (k + 1)) = flat (ls.take k) ++ (eight l.length ++ l) := by rw [List.take_add_one, hl]; exact flat_snoc _ _
      have hfm := flat_le ls (k + 1)
      have hfL := HFL.out
      obtain ⟨ua, uc, rfl, hum, _⟩ := hub.len
      rw [hft] at hfm
      simp only [List.length_append, eight_length] at hfm
      have HFT := Lib.hid hft
      have HUB := Lib.hid hub
      have HU := Lib.hid hu
      clear hft h4 hub hu hl
      generalize flat (ls.take k) = xs at *
      go_wp2
      refine wp_region_HE hd44 (fun j => ([u3, .slice (some ⟨g, off, none⟩) ls.length c, .int .i64 k, .pointer (some ⟨g, off + k, none⟩), .slice ua l.length uc, .int .i64 l.length, undef, undef, .slice (some ⟨g, off, none⟩) ls.length c, .int .i64 k, .pointer (some ⟨g, off + k, none⟩), .slice ua l.length uc] : List Value).getD j undef)
        (fun u => Below w.heap.size w u) (S44 wr w.heap.size wr.heap.size l xs) (by kernel_rfl) (by kernel_rfl) (by kernel_rfl) ?_ rfl ?_
      · intro vs u hu
        rcases vs with _ | ⟨v1, _ | ⟨v2, _ | ⟨v3, _ | ⟨v4, _ | _⟩⟩⟩⟩
        · cases hu; exact hb.drew
        · exact hb.trans (hu.1.mono hsz)
        · exact hb.trans hu.1
        · exact hb.trans hu.1
        · exact hb.trans hu.2.1
        · exact hu.elim
      refine HE_head rfl rfl (fun u hu => r_move (rho_base rfl rfl)) ?_
      refine HE_head rfl rfl (fun u hu => r_move (rho_base rfl rfl)) ?_
      refine HE_head rfl rfl (fun u hu => r_move (rho_base rfl rfl)) ?_
      refine HE_head rfl rfl (fun u hu => r_indexSl (rho_env rfl) (rho_env rfl) sl39 ⟨by omega, by omega, rfl⟩) ?_
      refine HE_head rfl rfl (fun u hu => r_load (rho_env rfl) on29 ((World.cell?_of_block (hu.block g hg)).trans HU.out)) ?_
      refine HE_head rfl rfl (fun u hu => r_lenSl (rho_env rfl) Try.underlying23) ?_
      refine HE_call (f := 54) (args := #[.int .i64 l.length]) rfl (fun u => r_call pf30 (map1 (rho_env rfl)) rfl) (fun u hu => (eight_any _ _).mono ?_) fun v1 => ?_
      · rintro _ u' ⟨v', rfl, ho', hb'⟩
        cases hu
        exact ⟨_, rfl, (Below.refl _ _).drew.trans hb', ho'⟩
      refine HE_run rfl (fun u hu => ?_) fun v2 => ?_
      · obtain ⟨v', u', hr, h1, h2, _⟩ := run_append_byt (P := Try.prog) u byt29 23 w.heap.size (ho.below hu.1) hu.2.byt (by rw [eight_length]; omega) (by have := hu.1.size; omega)
        exact ⟨v', u', r_append (rho_env rfl) (rho_env rfl) hr, (hu.1.mono hsz).trans (toBelow h2 (by have := hu.1.size; omega) (fun g hgg => (ho.lt g hgg).1)), h1⟩
      refine HE_head rfl rfl (fun u hu => r_move (rho_base rfl rfl)) ?_
      refine HE_head rfl rfl (fun u hu => r_move (rho_base rfl rfl)) ?_
      refine HE_head rfl rfl (fun u hu => r_indexSl (rho_env rfl) (rho_env rfl) sl39 ⟨by omega, by omega, rfl⟩) ?_
      refine HE_head rfl rfl (fun u hu => r_load (rho_env rfl) on29 ((World.cell?_of_block (hu.block g hg)).trans HU.out)) ?_
      refine HE_run rfl (fun u hu => ?_) fun v3 => ?_
      · obtain ⟨v', u', hr, h1, h2, _⟩ := run_append_byt (P := Try.prog) u byt29 23 w.heap.size hu.2 (HUB.out.ext (hb.trans hu.1)) (by rw [List.length_append, eight_length]; omega) (by have := hu.1.size; omega)
        exact ⟨v', u', r_append (rho_env rfl) (rho_env rfl) hr, hu.1.trans (toBelow h2 (by have := hu.1.size; omega) (fun g hgg => (hu.2.lt g hgg).1)), h1⟩
      refine HE_run rfl (fun u hu => ⟨_, _, r_assign (rho_env rfl), rfl, hu⟩) fun v4 => ?_
      refine HE_nil fun u hu => ?_
      rw [withEnv_norm (rfl : setsL _ 0 _ = [_, _, _, _, _, _, _, _, _, _, _, _, _, _, _, _, _, _, _, _, _, _, _, _, _])]
      obtain ⟨rfl, hb2, ho2⟩ := hu
      have hb3 := hb.trans hb2
      clear ho hb hb2
      go_wp2
      go_roundw
      case rel => exact ⟨k + 1, by omega, by go_num, by rw [HFT.out, ← List.append_assoc]; exact ho2, hb3⟩
      case measure => simp [intOf]; omega
    · obtain rfl : k = ls.length := by omega
      go_wp2
      go_ret
      refine ⟨_, rfl, ?_, hb⟩
      rw [List.take_of_length_le (Nat.le_refl _)] at ho
      exact ho
end Go.Proofs.Ythpjihiikkhcjaa
