/-
  A part of the proofs of this seat: laws of the walk, or contracts of the functions that the statements reach. No conditions but those that each theorem names.
-/
import Derived.Test.YtbbpcgodjncflaaU
import Derived.Test.YtbbpcgodjncflaaRf
namespace Go.Proofs.Ytbbpcgodjncflaa
open Go.RowKit Go.Sp
set_option maxHeartbeats 400000 in
theorem flow_any (a : Option Addr) (n c : Nat) (w : World) :
    Calls Try.prog 45 #[.slice a n c] w fun e w' => e = .returned (.func (.func 49) #[] #[.pointer (some ⟨w.heap.size, 0, none⟩)]) ∧ w' = w.alloc (.cells #[.slice a n c] 29) := by
  go_enter Try.func45, Try.ntmps45
  go_wp2
  go_ret
  exact ⟨rfl, rfl⟩
theorem r_build39 {ρ : Operand → Value} {d ty pos aft g} {x : Operand} {a : Option Addr} {n c : Nat} (u : World) (hx : ρ x = .slice a n c) :
    (execOp ρ ⟨d, .buildSlice 39 1 #[(0, x)], ty, pos, aft, g⟩).run Try.prog u = .ok (.value (.slice (some ⟨u.heap.size, 0, none⟩) 1 1)) (u.alloc (.cells #[.slice a n c] 29)) := by
  simp only [execOp]
  go_simp
theorem r_yield {P : Program} {ρ : Operand → Value} {d ty pos aft g ats} {x y : Operand} {l : Nat} {v : Value} {u : World} {fn tmps assign body} (hx : ρ x = yv l) (hy : ρ y = v) (h : (Instr.yield l #[v]).run P u = .ok (.round l fn tmps assign body) u) :
    (execOp ρ ⟨d, .call { callee := .value x, args := #[y], argTypes := ats }, ty, pos, aft, g⟩).run P u = .ok (.round l fn tmps assign body) u := by
  simp [execOp, resolve, hx, hy, invoke, callFunc, h, Deferred.ofValue]
/-- A new block of one slice is a list of one. -/
theorem Lst.one {w : World} {v : Value} {l : List UInt8} {t : TypeId} (h : Byt w v l) : Lst (w.alloc (.cells #[v] t)) (.slice (some ⟨w.heap.size, 0, none⟩) 1 1) [l] := by
  have hB := Blk.new w #[v] t
  refine .inr ⟨w.heap.size, 0, 1, rfl, by simp, by simp [maxLen], hB.lt, fun i l' hi => ?_⟩
  have : i = 0 := by
    rcases i with _ | i
    · rfl
    · simp at hi
  subst this
  simp at hi
  subst hi
  exact ⟨v, by rw [hB.cell]; rfl, h.ext ((Below.refl _ _).alloc (Nat.le_refl _) _)⟩
theorem pf38 : plainFn Try.prog 38 = true := by kernel_rfl
theorem pf24 : plainFn Try.prog 24 = true := by kernel_rfl
def hd49 (i : Nat) : Bool := decide (i < 3)
def S49 (wr : World) (J : Nat → World → Prop) (Jx : World → Prop) (k : Nat) (key : List UInt8) : List Value → World → Prop
  | [], u => u = wr.drew
  | [v], u => Below wr.heap.size wr u ∧ Sp.Own 5 wr.heap.size u v (eight k)
  | [_, v], u => Below wr.heap.size wr u ∧ Lst u v [eight k]
  | [_, _, v], u => Below wr.heap.size wr u ∧ v = .agg ((macB key [eight k]).map B).toArray
  | [_, _, _, v], u => (v = .bool true ∧ J (k + 1) u) ∨ (v = .bool false ∧ Jx u)
  | _, _ => False
set_option maxRecDepth 100000 in
set_option maxHeartbeats 2000000 in
theorem flow1_any (n kb : Nat) (a : Option Addr) (c : Nat) (key : List UInt8) (hkl : key.length ≤ 549755813888) (N : Nat) (hN : N ≤ 4611686018427387904) (w : World) :
    Endless n Try.prog 49 #[.pointer (some ⟨kb, 0, none⟩)] (fun k => .agg ((macB key [eight k]).map B).toArray) N (fun W => W.cell? ⟨kb, 0, none⟩ = some (.slice a key.length c) ∧ Byt W (.slice a key.length c) key) w := by
  intro l J Jx W _ hJ hJN hJx hY h0
  have HJ := Lib.hid hJ
  have HN := Lib.hid hJN
  have HX := Lib.hid hJx
  have HY := Lib.hid hY
  clear hJ hJN hJx hY
  refine callsIn_of_wp Try.func49 rfl trivial (wpIn_wide.2 ?_)
  simp only [Try.ntmps49, List.size_toArray, List.length_cons, List.length_nil, Nat.reduceAdd, Nat.reduceSub, Array.replicate_succ, Array.replicate_zero, List.push_toArray, List.append_toArray, List.nil_append, List.cons_append]
  go_wp2
  go_loopw [3] (fun i wr => ∃ k : Nat, i = .int .i64 k ∧ J k wr) (fun i _ => (N - intOf i).toNat)
  case atStart => exact ⟨0, rfl, h0⟩
  case round =>
    obtain ⟨k, rfl, hJ⟩ := hrel
    obtain ⟨hkN, hK⟩ := HN.out k wr hJ
    go_wp2
    have hKu : ∀ u, Below wr.heap.size wr u → u.cell? ⟨kb, 0, none⟩ = some (.slice a key.length c) ∧ Byt u (.slice a key.length c) key := fun u hu => (HN.out k u (HJ.out k wr u hJ hu)).2
    refine wpIn_wide.1 (wpIn_region_IE (n := n + 1) (.inl rfl) hd49 (fun j => ([yv l, .slice a key.length c, .int .i64 k] : List Value).getD j undef)
      (fun u => u.cell? ⟨kb, 0, none⟩ = some (.slice a key.length c) ∧ Byt u (.slice a key.length c) key) (S49 wr J Jx k key) (by kernel_rfl) (by kernel_rfl) (by kernel_rfl) (by kernel_rfl) ?_ rfl ?_)
    · intro vs u hu
      rcases vs with _ | ⟨v1, _ | ⟨v2, _ | ⟨v3, _ | ⟨v4, _ | _⟩⟩⟩⟩
      · cases hu; exact hK
      · exact hKu u hu.1
      · exact hKu u hu.1
      · exact hKu u hu.1
      · rcases hu with ⟨_, hu⟩ | ⟨_, hu⟩
        · exact (HN.out _ u hu).2
        · exact HX.out u hu
      · exact hu.elim
    refine IE_head rfl rfl (fun u hu => r_move (rho_base rfl rfl)) ?_
    refine IE_head rfl rfl (fun u hu => r_load (rho_base rfl rfl) on29 hu.1) ?_
    refine IE_head rfl rfl (fun u hu => r_move (rho_base rfl rfl)) ?_
    refine IE_call (.inl rfl) (f := 38) (args := #[.int .i64 k]) rfl (fun u => r_call pf38 (map1 (rho_env rfl)) rfl) (fun u hu => (number_any _ _).mono ?_) fun v1 => ?_
    · rintro _ u' ⟨v', rfl, ho', hb'⟩
      cases hu
      exact ⟨_, rfl, (Below.refl _ _).drew.trans hb', ho'⟩
    refine IE_run rfl (fun u hu => ?_) fun v2 => ?_
    · obtain ⟨hb, ho⟩ := hu
      obtain ⟨va, vc, rfl, _, _⟩ := ho.byt.len
      exact ⟨_, _, r_build39 u (rho_env rfl), hb.alloc hb.size _, Lst.one ho.byt⟩
    refine IE_call (.inl rfl) (f := 24) (args := #[.slice a key.length c, v2]) rfl (fun u => r_call pf24 (map2 (rho_env rfl) (rho_env rfl)) rfl) (fun u hu => (mac_any _ _ key [eight k] u (hKu u hu.1).2 hu.2 hkl (by simp [eight_length])).mono ?_) fun v3 => ?_
    · rintro _ u' ⟨rfl, hb'⟩
      exact ⟨_, rfl, hu.1.trans (hb'.mono hu.1.size), rfl⟩
    refine IE_round rfl (fun u hu => ?_) fun v4 => ?_
    · obtain ⟨hb, rfl⟩ := hu
      obtain ⟨fn, tmps, assign, body, hy, hr⟩ := HY.out k u (HJ.out k wr u hJ hb)
      refine ⟨l, fn, tmps, assign, body, r_yield (rho_env rfl) (rho_env rfl) hy, hr.mono ?_⟩
      rintro e u' (⟨rfl, h⟩ | ⟨rfl, h⟩)
      · exact ⟨_, rfl, .inl ⟨rfl, h⟩⟩
      · exact ⟨_, rfl, .inr ⟨rfl, h⟩⟩
    refine IE_nil fun u hu => ?_
    rw [withEnv_norm (rfl : setsL _ 0 _ = [_, _, _, _, _, _, _, _, _, _, _, _, _])]
    clear hKu hK hJ
    rcases hu with ⟨rfl, hu⟩ | ⟨rfl, hu⟩
    · go_wp2
      go_roundw
      case rel => exact ⟨k + 1, by go_num, hu⟩
      case measure => simp [intOf]; omega
    · go_wp2
      go_end0
      exact ⟨⟨_, rfl⟩, hu⟩
end Go.Proofs.Ytbbpcgodjncflaa
