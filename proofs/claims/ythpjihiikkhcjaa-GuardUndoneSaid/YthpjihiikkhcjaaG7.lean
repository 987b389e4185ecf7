/-
  A part of the proofs of this seat: laws of the walk, or contracts of the functions that the statements reach. No conditions but those that each theorem names.
-/
import Derived.Test.YthpjihiikkhcjaaG6x
import Derived.Test.YthpjihiikkhcjaaAp
namespace Go.Sp
open Go.RowKit
theorem Own.take0 {e : TypeId} {n : Nat} {w : World} {a : Option Addr} {k c : Nat} {l : List UInt8} (h : Own e n w (.slice a k c) l) (h0 : 0 < l.length) : Own e n w (.slice a 0 c) [] := by
  rcases h.2 with ⟨_, h1⟩ | ⟨g, cap, cur, hv, hb, hg, hc, hcm, hcs, ht⟩
  · omega
  · simp only [Value.slice.injEq] at hv
    obtain ⟨rfl, _, rfl⟩ := hv
    exact ⟨by simp, .inr ⟨g, c, cur, rfl, hb, hg, Nat.zero_le _, hcm, hcs, by simp⟩⟩
/-- All parts, one behind the other. -/
def cat (ls : List (List UInt8)) : List UInt8 := ls.flatMap id
end Go.Sp
namespace Go.Proofs.Ythpjihiikkhcjaa
open Go.RowKit Go.Sp
set_option maxHeartbeats 2000000 in
theorem grow_any (n : Nat) (w : World) (hn : n ≤ 100000000000) :
    Calls Try.prog 49 #[.slice none 0 0, .int .i64 n] w fun e w' => ∃ v', e = .returned v' ∧ Sp.Own 5 w.heap.size w' v' [] ∧ Below w.heap.size w w' := by
  have h0 : ¬ (n : Int) < 0 := by omega
  by_cases hz : n = 0
  · have hz' : ¬ (0 : Int) < (n : Int) := by omega
    go_enter Try.func49, Try.ntmps49
    go_wp2
    go_ret
    exact ⟨_, rfl, Own.nil _ _ _, Below.refl _ _⟩
  · have hz' : (0 : Int) < (n : Int) := by omega
    go_enter Try.func49, Try.ntmps49
    go_wp2_with (refine (show wpList _ _ _ (⟨some 22, _, _, _, _, _⟩ :: _) _ _ from stop_here ?_))
    refine Stop.go (wpList_append_zeros rfl rfl byt29 Try.underlying3 (Own.nil 5 w.heap.size w) rfl rfl (by simp; omega) (Nat.le_refl _) ?_)
    intro v w1 ho hg
    rw [List.nil_append] at ho
    have hbw := toBelow hg (Nat.le_refl _) (fun k hk => by cases hk)
    obtain ⟨va, vc, rfl, hvc, hvm⟩ := ho.byt.len
    have ho0 := Own.take0 ho (by simp; omega)
    unfold maxLen at hvm
    simp only [List.length_replicate] at *
    clear ho hg
    go_wp2
    go_ret
    exact ⟨_, rfl, ho0, hbw⟩
theorem pf49 : plainFn Try.prog 49 = true := by kernel_rfl
theorem cat_snoc (ls : List (List UInt8)) (k : Nat) (l : List UInt8) (h : ls[k]? = some l) : cat (ls.take (k + 1)) = cat (ls.take k) ++ l := by
  unfold cat
  rw [List.take_add_one, h, List.flatMap_append]; simp
theorem cat_le (ls : List (List UInt8)) (k : Nat) : (cat (ls.take k)).length ≤ (cat ls).length := by
  have h : cat ls = cat (ls.take k) ++ cat (ls.drop k) := by simp only [cat, ← List.flatMap_append, List.take_append_drop]
  rw [h, List.length_append]; omega
set_option maxHeartbeats 2000000 in
theorem concat_any (v : Value) (ls : List (List UInt8)) (w : World) (hL : Lst w v ls) (hlen : (cat ls).length ≤ 100000000000) :
    Calls Try.prog 37 #[v] w fun e w' => ∃ v', e = .returned v' ∧ Sp.Own 5 w.heap.size w' v' (cat ls) ∧ Below w.heap.size w w' := by
  have HL := Lib.hid hL
  have hva : ∃ a c, v = .slice a ls.length c := by
    rcases hL with ⟨rfl, rfl⟩ | ⟨_, _, _, rfl, _⟩ <;> exact ⟨_, _, rfl⟩
  obtain ⟨va, vc, rfl⟩ := hva
  clear hL
  go_enter Try.func37, Try.ntmps37
  go_wp2
  go_loopw [11, 3] (fun i n wr => ∃ (k m : Nat), k ≤ ls.length ∧ i = .int .i64 k ∧ n = .int .i64 m ∧ m = (cat (ls.take k)).length ∧ w = wr) (fun i _ _ => (ls.length - intOf i).toNat)
  case atStart => exact ⟨0, 0, by omega, rfl, rfl, rfl, rfl⟩
  case round =>
    obtain ⟨k, m, hk, rfl, rfl, hm, rfl⟩ := hrel
    by_cases hlt : k < ls.length
    · obtain ⟨l, hl⟩ : ∃ l, ls[k]? = some l := ⟨ls[k], by simp [hlt]⟩
      rcases HL.out with ⟨_, rfl⟩ | ⟨g, off, cap, hv, hq1, hq2, hg, h4⟩
      · simp at hlt
      unfold maxLen at hq2
      simp only [Value.slice.injEq, true_and] at hv
      obtain ⟨rfl, rfl⟩ := hv
      obtain ⟨u, hu, hub⟩ := h4 k l hl
      obtain ⟨ua, uc, rfl, hum, _⟩ := hub.len
      have hcs := cat_snoc ls k l hl
      have hcl := cat_le ls (k + 1)
      rw [hcs, List.length_append, ← hm] at hcl
      have hm2 : m + l.length = (cat (ls.take (k + 1))).length := by rw [hcs, List.length_append, hm]
      have HM := Lib.hid hm2
      clear hm2 hcs hm h4 hub hl
      have hlt' : (k : Int) < (ls.length : Int) := by omega
      have hk0 : (0 : Int) ≤ k := by omega
      have hnn : ¬ (m : Int) + (l.length : Int) < 0 := by omega
      go_wp2
      go_roundw
      case rel => exact ⟨k + 1, m + l.length, by omega, by go_num, by go_num, HM.out, trivial⟩
      case measure => simp [intOf]; omega
    · obtain rfl : k = ls.length := by omega
      rw [List.take_length] at hm
      have hmx : m ≤ 100000000000 := by omega
      clear hlt hm
      go_wp2_with fail
      refine (grow_any m _ hmx).mono ?_
      rintro _ w1 ⟨v1, rfl, ho1, hb1⟩
      go_wp2
      go_loopw [27, 6] (fun i o wr => ∃ (k : Nat), k ≤ ls.length ∧ i = .int .i64 k ∧ Sp.Own 5 w.heap.size wr o (cat (ls.take k)) ∧ Below w.heap.size w wr) (fun i _ _ => (ls.length - intOf i).toNat)
      case atStart => exact ⟨0, by omega, rfl, ho1, hb1⟩
      case round =>
        clear ho1 hb1
        obtain ⟨k, hk, rfl, ho, hb⟩ := hrel
        by_cases hlt : k < ls.length
        · obtain ⟨l, hl⟩ : ∃ l, ls[k]? = some l := ⟨ls[k], by simp [hlt]⟩
          rcases HL.out with ⟨_, rfl⟩ | ⟨g, off, cap, hv, hq1, hq2, hg, h4⟩
          · simp at hlt
          unfold maxLen at hq2
          simp only [Value.slice.injEq, true_and] at hv
          obtain ⟨rfl, rfl⟩ := hv
          obtain ⟨u, hu, hub⟩ := h4 k l hl
          have hu' := (World.cell?_of_block (hb.block g hg)).trans hu
          have hub' := hub.ext hb
          obtain ⟨ua, uc, rfl, hum, _⟩ := hub.len
          have hcs := cat_snoc ls k l hl
          have hcl := cat_le ls (k + 1)
          rw [hcs, List.length_append] at hcl
          have HCS := Lib.hid hcs
          clear hcs h4 hub hl hu
          have hlt' : (k : Int) < (ls.length : Int) := by omega
          have hk0 : (0 : Int) ≤ k := by omega
          have hsz := hb.size
          go_wp2_with (refine (show wpList _ _ _ (⟨some 33, _, _, _, _, _⟩ :: _) _ _ from stop_here ?_))
          refine Stop.go (wpList_append_byt rfl rfl byt29 ho hub' rfl rfl (by omega) hsz ?_)
          intro v2 w2 ho2 hg2 _
          rw [← HCS.out] at ho2
          have hb2 := hb.trans (toBelow hg2 hsz (fun j hj => (ho.lt j hj).1))
          clear ho hg2 hb hub' hu' hcl
          go_wp2
          go_roundw
          case rel => exact ⟨k + 1, by omega, by go_num, ho2, hb2⟩
          case measure => simp [intOf]; omega
        · obtain rfl : k = ls.length := by omega
          rw [List.take_length] at ho
          go_wp2
          go_ret
          exact ⟨_, rfl, ho, hb⟩
theorem pf37 : plainFn Try.prog 37 = true := by kernel_rfl
end Go.Proofs.Ythpjihiikkhcjaa
