/-
  A part of the proofs of this seat: laws of the walk, or contracts of the functions that the statements reach. No conditions but those that each theorem names.
-/
import Derived.StillTailTactics
import Derived.BigRegion
import Derived.Test.YthpjihiikkhcjaaGa
import Derived.Test.YthpjihiikkhcjaaRows
import Derived.Test.YthpjihiikkhcjaaGb
namespace Go.Proofs.Ythpjihiikkhcjaa
open Go.RowKit Go.Sp
theorem byt29 : BytT Try.prog 23 5 := ⟨Try.underlying23, Try.underlying5, info_parts (by kernel_rfl)⟩
set_option maxHeartbeats 400000 in
theorem clone_any (v : Value) (l : List UInt8) (w : World) (hl : l.length ≤ 35184372088832) (hv : Byt w v l) :
    Calls Try.prog 57 #[v] w fun e w' => ∃ v', e = .returned v' ∧ Own 5 w.heap.size w' v' l ∧ Below w.heap.size w w' := by
  have hk := fun (w : World) a n c => Lib.run_eql_slice_nil (P := Try.prog) w 23 5 a n c 0 0 Try.underlying23
  rcases hv with ⟨rfl, rfl⟩ | hv'
  · go_enter Try.func57, Try.ntmps57
    go_wp2
    go_ret
    exact ⟨_, rfl, Own.nil _ _ _, Below.refl _ _⟩
  · have hv : Byt w v l := .inr hv'
    obtain ⟨g, off, cap, rfl, h1, h2, h3, h4⟩ := hv'
    clear h4
    go_enter Try.func57, Try.ntmps57
    go_wp2_with (at_builtin; refine stop_here ?_)
    refine Stop.go (wpList_append_byt rfl rfl byt29 (Own.lit 5 w.heap.size w [] (Nat.le_refl _) (by simp)) (hv.ext ((Below.refl _ _).alloc (Nat.le_refl _) _)) rfl rfl (by simp; omega) (by simp) ?_)
    intro v' w' ho hg _
    go_wp2
    go_ret
    exact ⟨_, rfl, ho, ((Below.refl _ _).alloc (Nat.le_refl _) _).trans (toBelow hg (by simp) (by simp [Value.ownBlock]))⟩
end Go.Proofs.Ythpjihiikkhcjaa
namespace Go.Proofs.Ythpjihiikkhcjaa
open Go.RowKit Go.Sp
set_option maxHeartbeats 400000 in
theorem number_any (n : Int) (w : World) :
    Calls Try.prog 59 #[.int .i64 n] w fun e w' => ∃ v', e = .returned v' ∧ Own 5 w.heap.size w' v' (eight n) ∧ Below w.heap.size w w' := by
  have hmk : ∀ w, (Instr.makeSlice 23 (.int .i64 8) (.int .i64 8)).run Try.prog w = .ok (.slice (some ⟨w.heap.size, 0, none⟩) 8 8) (w.alloc (.cells (fillA (fun i => B (e8 n i)) (.int .u8 0) 8 0) 5)) := fun _ => by kernel_rfl
  go_enter Try.func59, Try.ntmps59
  go_wp2
  go_loopw [8, 4] (fun i _ wr => ∃ k : Nat, k ≤ 8 ∧ i = .int .i64 k ∧ wr = w.alloc (.cells (fillA (fun i => B (e8 n i)) (.int .u8 0) 8 k) 5)) (fun i _ _ => (8 - intOf i).toNat)
  case atStart => exact ⟨0, by omega, rfl, rfl⟩
  case round =>
    obtain ⟨k, hk, rfl, rfl⟩ := hrel
    by_cases h8 : k < 8
    · have hg := fillA_get (fun i => B (e8 n i)) (.int .u8 0) 8 k k h8
      rw [if_neg (by omega)] at hg
      go_wp2
      go_roundw
      case rel => exact ⟨k + 1, by omega, by go_num, by rw [← fillA_next]; rfl⟩
      case measure => simp [intOf]; omega
    · obtain rfl : k = 8 := by omega
      go_wp2
      go_ret
      refine ⟨_, rfl, ?_, (Below.refl _ _).alloc (Nat.le_refl _) _⟩
      rw [fillA_all _ _ _ _ (Nat.le_refl _)]
      have := Own.lit 5 w.heap.size w (eight n) (Nat.le_refl _) (by simp [eight, maxLen])
      rw [eight, List.map_map, List.length_map, List.length_range] at this
      exact this
end Go.Proofs.Ythpjihiikkhcjaa
namespace Go.Proofs.Ythpjihiikkhcjaa
open Go.RowKit Go.Sp
set_option maxHeartbeats 400000 in
theorem eight_any (n : Int) (w : World) :
    Calls Try.prog 54 #[.int .i64 n] w fun e w' => ∃ v', e = .returned v' ∧ Own 5 w.heap.size w' v' (eight n) ∧ Below w.heap.size w w' := by
  go_enter Try.func54, Try.ntmps54
  go_wp2
  go_loopw [3, 4] (fun b i wr => ∃ k : Nat, k ≤ 8 ∧ i = .int .i64 k ∧ Own 5 w.heap.size wr b ((List.range k).map (e8 n)) ∧ Below w.heap.size w wr) (fun _ i _ => (8 - intOf i).toNat)
  case atStart => exact ⟨0, by omega, rfl, Own.nil _ _ _, Below.refl _ _⟩
  case round =>
    obtain ⟨k, hk, rfl, ho, hb⟩ := hrel
    have hsz := hb.size
    by_cases h8 : k < 8
    · have hlen : ((List.range k).map (e8 n)).length = k := by simp
      have HL := Lib.hid hlen
      clear hlen
      go_wp2_with (at_builtin; refine stop_here ?_)
      refine Stop.go (wpList_append_byt rfl rfl byt29 (ho.below ((Below.refl _ _).alloc (Nat.le_refl _) _)) (l := [e8 n k]) (Own.lit 5 wr.heap.size wr [e8 n k] (Nat.le_refl _) (by simp [maxLen])).byt rfl rfl (by rw [HL.out]; simp; omega) (by simp; omega) ?_)
      intro v' w' ho' hg _
      have hb' : Below w.heap.size w w' := (hb.alloc hsz _).trans (toBelow hg (by simp; omega) (fun g hgg => (ho.lt g hgg).1))
      rw [← range_snoc] at ho'
      clear hg ho hb
      go_wp2
      go_roundw
      case rel => exact ⟨k + 1, by omega, by go_num, ho', hb'⟩
      case measure => simp [intOf]; omega
    · obtain rfl : k = 8 := by omega
      go_wp2
      go_ret
      exact ⟨_, rfl, ho, hb⟩
end Go.Proofs.Ythpjihiikkhcjaa
namespace Go.Proofs.Ythpjihiikkhcjaa
open Go.RowKit Go.Sp
theorem fo62_0 : fieldOff Try.prog 86 0 = some 0 := by kernel_rfl
theorem fo62_1 : fieldOff Try.prog 86 1 = some 8 := by kernel_rfl
theorem ar25 : arrOf Try.prog 25 = some 8 := by kernel_rfl
theorem ar34 : arrOf Try.prog 64 = some 16 := by kernel_rfl
theorem ar35 : arrOf Try.prog 65 = some 16 := by kernel_rfl
theorem sl29 : slOf Try.prog 23 = true := by kernel_rfl
theorem on24 : oneT Try.prog 24 = true := by kernel_rfl
theorem on5 : oneT Try.prog 5 = true := by kernel_rfl
theorem on3 : oneT Try.prog 3 = true := by kernel_rfl
theorem on29 : oneT Try.prog 23 = true := by kernel_rfl
theorem pf47 : plainFn Try.prog 68 = true := by kernel_rfl
end Go.Proofs.Ythpjihiikkhcjaa
namespace Go.Proofs.Ythpjihiikkhcjaa
open Go.RowKit Go.Sp
/-- What the rounds have made of the words. -/
def takeC (s : S8) (wv : Value) (b0 b1 b2 b3 b4 b5 b6 b7 b8 b9 b10 b11 b12 b13 b14 b15 : UInt8) : Nat → Array Value
  | 0 => #[W s.a, W s.b, W s.c, W s.d, W s.e, W s.f, W s.g, W s.h, wv]
  | 1 => #[W (s.a ^^^ le b0 b1 b2 b3), W s.b, W s.c, W s.d, W s.e, W s.f, W s.g, W s.h, wv]
  | 2 => #[W (s.a ^^^ le b0 b1 b2 b3), W (s.b ^^^ le b4 b5 b6 b7), W s.c, W s.d, W s.e, W s.f, W s.g, W s.h, wv]
  | 3 => #[W (s.a ^^^ le b0 b1 b2 b3), W (s.b ^^^ le b4 b5 b6 b7), W (s.c ^^^ le b8 b9 b10 b11), W s.d, W s.e, W s.f, W s.g, W s.h, wv]
  | _ => #[W (s.a ^^^ le b0 b1 b2 b3), W (s.b ^^^ le b4 b5 b6 b7), W (s.c ^^^ le b8 b9 b10 b11), W (s.d ^^^ le b12 b13 b14 b15), W s.e, W s.f, W s.g, W s.h, wv]
set_option maxRecDepth 100000 in
set_option maxHeartbeats 4000000 in
theorem take_raw (p : Nat) (s : S8) (wv : Value) (g off cap : Nat) (b0 b1 b2 b3 b4 b5 b6 b7 b8 b9 b10 b11 b12 b13 b14 b15 : UInt8) (w : World) (hp : Blk w p (s.cells wv) 86) (hg : g ≠ p) (hlt : g < w.heap.size)
    (hc : ∀ i, i < 16 → w.cell? ⟨g, off + i, none⟩ = lookL [B b0, B b1, B b2, B b3, B b4, B b5, B b6, B b7, B b8, B b9, B b10, B b11, B b12, B b13, B b14, B b15] i) :
    Calls Try.prog 64 #[.pointer (some ⟨p, 0, none⟩), .slice (some ⟨g, off, none⟩) 16 cap] w fun e w' => e = .returned (.tuple #[]) ∧ Only p w w' ∧ Blk w' p ((absorb s [b0, b1, b2, b3, b4, b5, b6, b7, b8, b9, b10, b11, b12, b13, b14, b15]).cells wv) 86 := by
  go_enter Try.func64, Try.ntmps64
  go_wp2
  go_loopw [5, 4] (fun i _ wr => ∃ k : Nat, k ≤ 4 ∧ i = .int .i64 k ∧ Only p w wr ∧ Blk wr p (takeC s wv b0 b1 b2 b3 b4 b5 b6 b7 b8 b9 b10 b11 b12 b13 b14 b15 k) 86) (fun i _ _ => (4 - intOf i).toNat)
  case atStart => exact ⟨0, by omega, rfl, Only.refl _ _, hp⟩
  case round =>
    obtain ⟨k, hk, rfl, ho, hb⟩ := hrel
    have hlt' := hb.lt
    have hbf := hb.frozen
    have hbc := hb.cell
    have hgb := ho.block g hlt hg
    have hd : ∀ i, i < 16 → wr.drew.cell? ⟨g, off + i, none⟩ = lookL [B b0, B b1, B b2, B b3, B b4, B b5, B b6, B b7, B b8, B b9, B b10, B b11, B b12, B b13, B b14, B b15] i := fun i hi => by
      rw [← hc i hi]
      exact World.cell?_of_block (a := ⟨g, off + i, none⟩) hgb
    clear hgb
    have hk5 : k = 0 ∨ k = 1 ∨ k = 2 ∨ k = 3 ∨ k = 4 := by omega
    rcases hk5 with rfl | rfl | rfl | rfl | rfl
    · go_wp2
      refine wp_region_T 43 (by kernel_rfl) (by kernel_rfl) (by kernel_rfl) ?_
      simp only [List.take_succ_cons, List.take_zero, List.drop_succ_cons, List.drop_zero]
      have hcL := hb.drew.cellL
      clear hbc hbf
      refine E_move (rho_base rfl rfl) ?_
      refine E_move (rho_base rfl rfl) ?_
      refine E_nilCheck (rho_env rfl) ?_
      refine E_fieldAddr (rho_env rfl) fo62_0 ?_
      refine E_indexArr (rho_env rfl) (rho_env rfl) ar25 ⟨by decide, by decide, rfl⟩ ?_
      refine E_load (rho_env rfl) on24 (by first | exact ((hcL _).trans rfl) | exact ((hd _ (by decide)).trans rfl)) ?_
      refine E_move (rho_base rfl rfl) ?_
      refine E_move (rho_base rfl rfl) ?_
      refine E_mulI rho_const (rho_env rfl) ⟨rfl, by decide, by decide⟩ ?_
      refine E_indexSl (rho_env rfl) (rho_env rfl) sl29 ⟨by decide, by decide, rfl⟩ ?_
      refine E_load (rho_env rfl) on5 (by first | exact ((hcL _).trans rfl) | exact ((hd _ (by decide)).trans rfl)) ?_
      refine E_convBW (rho_env rfl) Try.underlying5 Try.underlying24 ?_
      refine E_move (rho_base rfl rfl) ?_
      refine E_move (rho_base rfl rfl) ?_
      refine E_mulI rho_const (rho_env rfl) ⟨rfl, by decide, by decide⟩ ?_
      refine E_addI (rho_env rfl) rho_const ⟨rfl, by decide, by decide⟩ ?_
      refine E_indexSl (rho_env rfl) (rho_env rfl) sl29 ⟨by decide, by decide, rfl⟩ ?_
      refine E_load (rho_env rfl) on5 (by first | exact ((hcL _).trans rfl) | exact ((hd _ (by decide)).trans rfl)) ?_
      refine E_convBW (rho_env rfl) Try.underlying5 Try.underlying24 ?_
      refine E_shlW (rho_env rfl) rho_const ⟨by decide, by decide⟩ ?_
      refine E_orW (rho_env rfl) (rho_env rfl) ?_
      refine E_move (rho_base rfl rfl) ?_
      refine E_move (rho_base rfl rfl) ?_
      refine E_mulI rho_const (rho_env rfl) ⟨rfl, by decide, by decide⟩ ?_
      refine E_addI (rho_env rfl) rho_const ⟨rfl, by decide, by decide⟩ ?_
      refine E_indexSl (rho_env rfl) (rho_env rfl) sl29 ⟨by decide, by decide, rfl⟩ ?_
      refine E_load (rho_env rfl) on5 (by first | exact ((hcL _).trans rfl) | exact ((hd _ (by decide)).trans rfl)) ?_
      refine E_convBW (rho_env rfl) Try.underlying5 Try.underlying24 ?_
      refine E_shlW (rho_env rfl) rho_const ⟨by decide, by decide⟩ ?_
      refine E_orW (rho_env rfl) (rho_env rfl) ?_
      refine E_move (rho_base rfl rfl) ?_
      refine E_move (rho_base rfl rfl) ?_
      refine E_mulI rho_const (rho_env rfl) ⟨rfl, by decide, by decide⟩ ?_
      refine E_addI (rho_env rfl) rho_const ⟨rfl, by decide, by decide⟩ ?_
      refine E_indexSl (rho_env rfl) (rho_env rfl) sl29 ⟨by decide, by decide, rfl⟩ ?_
      refine E_load (rho_env rfl) on5 (by first | exact ((hcL _).trans rfl) | exact ((hd _ (by decide)).trans rfl)) ?_
      refine E_convBW (rho_env rfl) Try.underlying5 Try.underlying24 ?_
      refine E_shlW (rho_env rfl) rho_const ⟨by decide, by decide⟩ ?_
      refine E_orW (rho_env rfl) (rho_env rfl) ?_
      refine E_xorW (rho_env rfl) (rho_env rfl) ?_
      refine E_nilCheck (rho_env rfl) ?_
      refine E_fieldAddr (rho_env rfl) fo62_0 ?_
      refine E_indexArr (rho_env rfl) (rho_env rfl) ar25 ⟨by decide, by decide, rfl⟩ ?_
      refine E_nil ?_
      clear hcL
      have hbc := hb.drew.cell
      have hbf := hb.drew.frozen
      simp only [takeC] at hbc
      refine wpList_norm (rfl : setsL _ 0 _ = [_, _, _, _, _, _, _, _, _, _, _, _, _, _, _, _, _, _, _, _, _, _, _, _, _, _, _, _, _, _, _, _, _, _, _, _, _, _, _, _, _, _, _, _, _, _, _, _, _, _, _, _, _, _, _, _, _, _, _, _]) ?_
      go_wp2
      go_roundw
      case rel => exact ⟨1, by omega, rfl, ho.drew.set (.inl rfl) _, (hb.drew.set 0 _)⟩
      case measure => simp [intOf]
    · go_wp2
      refine wp_region_T 43 (by kernel_rfl) (by kernel_rfl) (by kernel_rfl) ?_
      simp only [List.take_succ_cons, List.take_zero, List.drop_succ_cons, List.drop_zero]
      have hcL := hb.drew.cellL
      clear hbc hbf
      refine E_move (rho_base rfl rfl) ?_
      refine E_move (rho_base rfl rfl) ?_
      refine E_nilCheck (rho_env rfl) ?_
      refine E_fieldAddr (rho_env rfl) fo62_0 ?_
      refine E_indexArr (rho_env rfl) (rho_env rfl) ar25 ⟨by decide, by decide, rfl⟩ ?_
      refine E_load (rho_env rfl) on24 (by first | exact ((hcL _).trans rfl) | exact ((hd _ (by decide)).trans rfl)) ?_
      refine E_move (rho_base rfl rfl) ?_
      refine E_move (rho_base rfl rfl) ?_
      refine E_mulI rho_const (rho_env rfl) ⟨rfl, by decide, by decide⟩ ?_
      refine E_indexSl (rho_env rfl) (rho_env rfl) sl29 ⟨by decide, by decide, rfl⟩ ?_
      refine E_load (rho_env rfl) on5 (by first | exact ((hcL _).trans rfl) | exact ((hd _ (by decide)).trans rfl)) ?_
      refine E_convBW (rho_env rfl) Try.underlying5 Try.underlying24 ?_
      refine E_move (rho_base rfl rfl) ?_
      refine E_move (rho_base rfl rfl) ?_
      refine E_mulI rho_const (rho_env rfl) ⟨rfl, by decide, by decide⟩ ?_
      refine E_addI (rho_env rfl) rho_const ⟨rfl, by decide, by decide⟩ ?_
      refine E_indexSl (rho_env rfl) (rho_env rfl) sl29 ⟨by decide, by decide, rfl⟩ ?_
      refine E_load (rho_env rfl) on5 (by first | exact ((hcL _).trans rfl) | exact ((hd _ (by decide)).trans rfl)) ?_
      refine E_convBW (rho_env rfl) Try.underlying5 Try.underlying24 ?_
      refine E_shlW (rho_env rfl) rho_const ⟨by decide, by decide⟩ ?_
      refine E_orW (rho_env rfl) (rho_env rfl) ?_
      refine E_move (rho_base rfl rfl) ?_
      refine E_move (rho_base rfl rfl) ?_
      refine E_mulI rho_const (rho_env rfl) ⟨rfl, by decide, by decide⟩ ?_
      refine E_addI (rho_env rfl) rho_const ⟨rfl, by decide, by decide⟩ ?_
      refine E_indexSl (rho_env rfl) (rho_env rfl) sl29 ⟨by decide, by decide, rfl⟩ ?_
      refine E_load (rho_env rfl) on5 (by first | exact ((hcL _).trans rfl) | exact ((hd _ (by decide)).trans rfl)) ?_
      refine E_convBW (rho_env rfl) Try.underlying5 Try.underlying24 ?_
      refine E_shlW (rho_env rfl) rho_const ⟨by decide, by decide⟩ ?_
      refine E_orW (rho_env rfl) (rho_env rfl) ?_
      refine E_move (rho_base rfl rfl) ?_
      refine E_move (rho_base rfl rfl) ?_
      refine E_mulI rho_const (rho_env rfl) ⟨rfl, by decide, by decide⟩ ?_
      refine E_addI (rho_env rfl) rho_const ⟨rfl, by decide, by decide⟩ ?_
      refine E_indexSl (rho_env rfl) (rho_env rfl) sl29 ⟨by decide, by decide, rfl⟩ ?_
      refine E_load (rho_env rfl) on5 (by first | exact ((hcL _).trans rfl) | exact ((hd _ (by decide)).trans rfl)) ?_
      refine E_convBW (rho_env rfl) Try.underlying5 Try.underlying24 ?_
      refine E_shlW (rho_env rfl) rho_const ⟨by decide, by decide⟩ ?_
      refine E_orW (rho_env rfl) (rho_env rfl) ?_
      refine E_xorW (rho_env rfl) (rho_env rfl) ?_
      refine E_nilCheck (rho_env rfl) ?_
      refine E_fieldAddr (rho_env rfl) fo62_0 ?_
      refine E_indexArr (rho_env rfl) (rho_env rfl) ar25 ⟨by decide, by decide, rfl⟩ ?_
      refine E_nil ?_
      clear hcL
      have hbc := hb.drew.cell
      have hbf := hb.drew.frozen
      simp only [takeC] at hbc
      refine wpList_norm (rfl : setsL _ 0 _ = [_, _, _, _, _, _, _, _, _, _, _, _, _, _, _, _, _, _, _, _, _, _, _, _, _, _, _, _, _, _, _, _, _, _, _, _, _, _, _, _, _, _, _, _, _, _, _, _, _, _, _, _, _, _, _, _, _, _, _, _]) ?_
      go_wp2
      go_roundw
      case rel => exact ⟨2, by omega, rfl, ho.drew.set (.inl rfl) _, (hb.drew.set 1 _)⟩
      case measure => simp [intOf]
    · go_wp2
      refine wp_region_T 43 (by kernel_rfl) (by kernel_rfl) (by kernel_rfl) ?_
      simp only [List.take_succ_cons, List.take_zero, List.drop_succ_cons, List.drop_zero]
      have hcL := hb.drew.cellL
      clear hbc hbf
      refine E_move (rho_base rfl rfl) ?_
      refine E_move (rho_base rfl rfl) ?_
      refine E_nilCheck (rho_env rfl) ?_
      refine E_fieldAddr (rho_env rfl) fo62_0 ?_
      refine E_indexArr (rho_env rfl) (rho_env rfl) ar25 ⟨by decide, by decide, rfl⟩ ?_
      refine E_load (rho_env rfl) on24 (by first | exact ((hcL _).trans rfl) | exact ((hd _ (by decide)).trans rfl)) ?_
      refine E_move (rho_base rfl rfl) ?_
      refine E_move (rho_base rfl rfl) ?_
      refine E_mulI rho_const (rho_env rfl) ⟨rfl, by decide, by decide⟩ ?_
      refine E_indexSl (rho_env rfl) (rho_env rfl) sl29 ⟨by decide, by decide, rfl⟩ ?_
      refine E_load (rho_env rfl) on5 (by first | exact ((hcL _).trans rfl) | exact ((hd _ (by decide)).trans rfl)) ?_
      refine E_convBW (rho_env rfl) Try.underlying5 Try.underlying24 ?_
      refine E_move (rho_base rfl rfl) ?_
      refine E_move (rho_base rfl rfl) ?_
      refine E_mulI rho_const (rho_env rfl) ⟨rfl, by decide, by decide⟩ ?_
      refine E_addI (rho_env rfl) rho_const ⟨rfl, by decide, by decide⟩ ?_
      refine E_indexSl (rho_env rfl) (rho_env rfl) sl29 ⟨by decide, by decide, rfl⟩ ?_
      refine E_load (rho_env rfl) on5 (by first | exact ((hcL _).trans rfl) | exact ((hd _ (by decide)).trans rfl)) ?_
      refine E_convBW (rho_env rfl) Try.underlying5 Try.underlying24 ?_
      refine E_shlW (rho_env rfl) rho_const ⟨by decide, by decide⟩ ?_
      refine E_orW (rho_env rfl) (rho_env rfl) ?_
      refine E_move (rho_base rfl rfl) ?_
      refine E_move (rho_base rfl rfl) ?_
      refine E_mulI rho_const (rho_env rfl) ⟨rfl, by decide, by decide⟩ ?_
      refine E_addI (rho_env rfl) rho_const ⟨rfl, by decide, by decide⟩ ?_
      refine E_indexSl (rho_env rfl) (rho_env rfl) sl29 ⟨by decide, by decide, rfl⟩ ?_
      refine E_load (rho_env rfl) on5 (by first | exact ((hcL _).trans rfl) | exact ((hd _ (by decide)).trans rfl)) ?_
      refine E_convBW (rho_env rfl) Try.underlying5 Try.underlying24 ?_
      refine E_shlW (rho_env rfl) rho_const ⟨by decide, by decide⟩ ?_
      refine E_orW (rho_env rfl) (rho_env rfl) ?_
      refine E_move (rho_base rfl rfl) ?_
      refine E_move (rho_base rfl rfl) ?_
      refine E_mulI rho_const (rho_env rfl) ⟨rfl, by decide, by decide⟩ ?_
      refine E_addI (rho_env rfl) rho_const ⟨rfl, by decide, by decide⟩ ?_
      refine E_indexSl (rho_env rfl) (rho_env rfl) sl29 ⟨by decide, by decide, rfl⟩ ?_
      refine E_load (rho_env rfl) on5 (by first | exact ((hcL _).trans rfl) | exact ((hd _ (by decide)).trans rfl)) ?_
      refine E_convBW (rho_env rfl) Try.underlying5 Try.underlying24 ?_
      refine E_shlW (rho_env rfl) rho_const ⟨by decide, by decide⟩ ?_
      refine E_orW (rho_env rfl) (rho_env rfl) ?_
      refine E_xorW (rho_env rfl) (rho_env rfl) ?_
      refine E_nilCheck (rho_env rfl) ?_
      refine E_fieldAddr (rho_env rfl) fo62_0 ?_
      refine E_indexArr (rho_env rfl) (rho_env rfl) ar25 ⟨by decide, by decide, rfl⟩ ?_
      refine E_nil ?_
      clear hcL
      have hbc := hb.drew.cell
      have hbf := hb.drew.frozen
      simp only [takeC] at hbc
      refine wpList_norm (rfl : setsL _ 0 _ = [_, _, _, _, _, _, _, _, _, _, _, _, _, _, _, _, _, _, _, _, _, _, _, _, _, _, _, _, _, _, _, _, _, _, _, _, _, _, _, _, _, _, _, _, _, _, _, _, _, _, _, _, _, _, _, _, _, _, _, _]) ?_
      go_wp2
      go_roundw
      case rel => exact ⟨3, by omega, rfl, ho.drew.set (.inl rfl) _, (hb.drew.set 2 _)⟩
      case measure => simp [intOf]
    · go_wp2
      refine wp_region_T 43 (by kernel_rfl) (by kernel_rfl) (by kernel_rfl) ?_
      simp only [List.take_succ_cons, List.take_zero, List.drop_succ_cons, List.drop_zero]
      have hcL := hb.drew.cellL
      clear hbc hbf
      refine E_move (rho_base rfl rfl) ?_
      refine E_move (rho_base rfl rfl) ?_
      refine E_nilCheck (rho_env rfl) ?_
      refine E_fieldAddr (rho_env rfl) fo62_0 ?_
      refine E_indexArr (rho_env rfl) (rho_env rfl) ar25 ⟨by decide, by decide, rfl⟩ ?_
      refine E_load (rho_env rfl) on24 (by first | exact ((hcL _).trans rfl) | exact ((hd _ (by decide)).trans rfl)) ?_
      refine E_move (rho_base rfl rfl) ?_
      refine E_move (rho_base rfl rfl) ?_
      refine E_mulI rho_const (rho_env rfl) ⟨rfl, by decide, by decide⟩ ?_
      refine E_indexSl (rho_env rfl) (rho_env rfl) sl29 ⟨by decide, by decide, rfl⟩ ?_
      refine E_load (rho_env rfl) on5 (by first | exact ((hcL _).trans rfl) | exact ((hd _ (by decide)).trans rfl)) ?_
      refine E_convBW (rho_env rfl) Try.underlying5 Try.underlying24 ?_
      refine E_move (rho_base rfl rfl) ?_
      refine E_move (rho_base rfl rfl) ?_
      refine E_mulI rho_const (rho_env rfl) ⟨rfl, by decide, by decide⟩ ?_
      refine E_addI (rho_env rfl) rho_const ⟨rfl, by decide, by decide⟩ ?_
      refine E_indexSl (rho_env rfl) (rho_env rfl) sl29 ⟨by decide, by decide, rfl⟩ ?_
      refine E_load (rho_env rfl) on5 (by first | exact ((hcL _).trans rfl) | exact ((hd _ (by decide)).trans rfl)) ?_
      refine E_convBW (rho_env rfl) Try.underlying5 Try.underlying24 ?_
      refine E_shlW (rho_env rfl) rho_const ⟨by decide, by decide⟩ ?_
      refine E_orW (rho_env rfl) (rho_env rfl) ?_
      refine E_move (rho_base rfl rfl) ?_
      refine E_move (rho_base rfl rfl) ?_
      refine E_mulI rho_const (rho_env rfl) ⟨rfl, by decide, by decide⟩ ?_
      refine E_addI (rho_env rfl) rho_const ⟨rfl, by decide, by decide⟩ ?_
      refine E_indexSl (rho_env rfl) (rho_env rfl) sl29 ⟨by decide, by decide, rfl⟩ ?_
      refine E_load (rho_env rfl) on5 (by first | exact ((hcL _).trans rfl) | exact ((hd _ (by decide)).trans rfl)) ?_
      refine E_convBW (rho_env rfl) Try.underlying5 Try.underlying24 ?_
      refine E_shlW (rho_env rfl) rho_const ⟨by decide, by decide⟩ ?_
      refine E_orW (rho_env rfl) (rho_env rfl) ?_
      refine E_move (rho_base rfl rfl) ?_
      refine E_move (rho_base rfl rfl) ?_
      refine E_mulI rho_const (rho_env rfl) ⟨rfl, by decide, by decide⟩ ?_
      refine E_addI (rho_env rfl) rho_const ⟨rfl, by decide, by decide⟩ ?_
      refine E_indexSl (rho_env rfl) (rho_env rfl) sl29 ⟨by decide, by decide, rfl⟩ ?_
      refine E_load (rho_env rfl) on5 (by first | exact ((hcL _).trans rfl) | exact ((hd _ (by decide)).trans rfl)) ?_
      refine E_convBW (rho_env rfl) Try.underlying5 Try.underlying24 ?_
      refine E_shlW (rho_env rfl) rho_const ⟨by decide, by decide⟩ ?_
      refine E_orW (rho_env rfl) (rho_env rfl) ?_
      refine E_xorW (rho_env rfl) (rho_env rfl) ?_
      refine E_nilCheck (rho_env rfl) ?_
      refine E_fieldAddr (rho_env rfl) fo62_0 ?_
      refine E_indexArr (rho_env rfl) (rho_env rfl) ar25 ⟨by decide, by decide, rfl⟩ ?_
      refine E_nil ?_
      clear hcL
      have hbc := hb.drew.cell
      have hbf := hb.drew.frozen
      simp only [takeC] at hbc
      refine wpList_norm (rfl : setsL _ 0 _ = [_, _, _, _, _, _, _, _, _, _, _, _, _, _, _, _, _, _, _, _, _, _, _, _, _, _, _, _, _, _, _, _, _, _, _, _, _, _, _, _, _, _, _, _, _, _, _, _, _, _, _, _, _, _, _, _, _, _, _, _]) ?_
      go_wp2
      go_roundw
      case rel => exact ⟨4, by omega, rfl, ho.drew.set (.inl rfl) _, (hb.drew.set 3 _)⟩
      case measure => simp [intOf]
    · simp only [takeC] at hbc
      have hbt : ∀ w', Below wr.heap.size wr w' → ∀ i, w'.cell? ⟨p, i, none⟩ = wr.cell? ⟨p, i, none⟩ := fun w' h i => World.cell?_of_block (a := ⟨p, i, none⟩) (h.block p hlt')
      have hft : ∀ w', Below wr.heap.size wr w' → ∀ i, w'.frozen? ⟨p, i, none⟩ = wr.frozen? ⟨p, i, none⟩ := fun w' h i => World.frozen?_of_block (a := ⟨p, i, none⟩) (h.block p hlt')
      go_wp2_with fail
      refine (mix_any ⟨s.a ^^^ le b0 b1 b2 b3, s.b ^^^ le b4 b5 b6 b7, s.c ^^^ le b8 b9 b10 b11, s.d ^^^ le b12 b13 b14 b15, s.e, s.f, s.g, s.h⟩ _).mono ?_
      rintro e w1 ⟨rfl, hw1⟩
      have hbw := hb.ext hw1
      have ht : w1.there p 0 8 := fun j hj => ⟨by rw [hbw.cell]; have : (0 + j) < 9 := by omega
                                                  simp [takeC]; omega, hbw.frozen _⟩
      have HT := Lib.hid ht
      have HB := Lib.hid hbw
      have HO := Lib.hid (ho.trans (Only.ofBelow hw1 (Nat.le_refl _)))
      clear hb ho hw1 hbt hft hbw ht hbc hbf hd
      generalize hmm : mix _ = m
      have HM := Lib.hid hmm
      clear hmm
      go_wp2_with (refine wpList_store_mid rfl 25 (.tmp 59) (.tmp 57) rfl p 0 m.vals rfl rfl HT.out (by kernel_rfl) (vals_one m) ?_)
      go_end0
      refine ⟨rfl, ?_, ?_⟩
      · exact HO.out.setCells _ _ (.inl rfl)
      · have := HB.out.setCells m.vals.toList 0
        rw [absorb, HM.out]
        simpa [takeC, putL, S8.vals, S8.cells] using this
theorem take_any (p : Nat) (s : S8) (wv : Value) (g off cap : Nat) (bl : List UInt8) (w : World) (hp : Blk w p (s.cells wv) 86) (hg : g ≠ p) (hlt : g < w.heap.size) (hbl : bl.length = 16)
    (hc : ∀ (i : Nat) (b : UInt8), bl[i]? = some b → w.cell? ⟨g, off + i, none⟩ = some (B b)) :
    Calls Try.prog 64 #[.pointer (some ⟨p, 0, none⟩), .slice (some ⟨g, off, none⟩) 16 cap] w fun e w' => e = .returned (.tuple #[]) ∧ Only p w w' ∧ Blk w' p ((absorb s bl).cells wv) 86 := by
  match bl, hbl with
  | [b0, b1, b2, b3, b4, b5, b6, b7, b8, b9, b10, b11, b12, b13, b14, b15], _ =>
    refine take_raw p s wv g off cap b0 b1 b2 b3 b4 b5 b6 b7 b8 b9 b10 b11 b12 b13 b14 b15 w hp hg hlt fun i hi => ?_
    have h16 : i = 0 ∨ i = 1 ∨ i = 2 ∨ i = 3 ∨ i = 4 ∨ i = 5 ∨ i = 6 ∨ i = 7 ∨ i = 8 ∨ i = 9 ∨ i = 10 ∨ i = 11 ∨ i = 12 ∨ i = 13 ∨ i = 14 ∨ i = 15 := by omega
    rcases h16 with rfl | rfl | rfl | rfl | rfl | rfl | rfl | rfl | rfl | rfl | rfl | rfl | rfl | rfl | rfl | rfl <;> exact hc _ _ rfl
end Go.Proofs.Ythpjihiikkhcjaa
namespace Go.Proofs.Ythpjihiikkhcjaa
open Go.RowKit Go.Sp
theorem Byt.drop16 {w : World} {g off cap : Nat} {l : List UInt8} (hl : 16 ≤ l.length) (hcap : l.length ≤ cap) (hm : cap ≤ maxLen) (hg : g < w.heap.size) (h : ∀ (i : Nat) (b : UInt8), l[i]? = some b → w.cell? ⟨g, off + i, none⟩ = some (B b)) (o : Nat) (ho : o = off + 16 ∨ l.length = 16) :
    Byt w (.slice (some ⟨g, o, none⟩) (l.length - 16) (cap - 16)) (l.drop 16) := by
  refine .inr ⟨g, o, cap - 16, by simp, by simp; omega, by omega, hg, fun i b hi => ?_⟩
  rw [List.getElem?_drop] at hi
  have hlt := (List.getElem?_eq_some_iff.1 hi).1
  rcases ho with rfl | ho
  · rw [Nat.add_assoc]; exact h _ _ hi
  · omega
set_option maxRecDepth 100000 in
set_option maxHeartbeats 2000000 in
theorem write_any (p : Nat) (s : S8) (wv bv : Value) (l bs : List UInt8) (w : World) (hp : Blk w p (s.cells wv) 86) (hw : Byt w wv l) (hb : Byt w bv bs)
    (hl : l.length + bs.length ≤ 1099511627776) :
    Calls Try.prog 58 #[.pointer (some ⟨p, 0, none⟩), bv] w fun e w' => e = .returned (.tuple #[]) ∧ Only p w w' ∧ ∃ wv', Blk w' p ((absAll s (l ++ bs)).1.cells wv') 86 ∧ Byt w' wv' (absAll s (l ++ bs)).2 ∧ wv'.ownBlock ≠ some p ∧ (∀ k, wv'.ownBlock = some k → w.heap.size ≤ k) := by
  have hbc := hp.cell
  have hbf := hp.frozen
  have hpl := hp.lt
  simp only [S8.cells] at hbc
  go_enter Try.func58, Try.ntmps58
  go_wp2_with fail
  refine (clone_any wv l w (by omega) hw).mono ?_
  rintro e w1 ⟨v1, rfl, ho1, hb1⟩
  have hs1 := hb1.size
  go_wp2_with (at_builtin; refine stop_here ?_)
  refine Stop.go (wpList_append_byt rfl rfl byt29 ho1 (hb.ext hb1) rfl rfl (by omega) hs1 ?_)
  intro v2 w2 ho2 hg2 _
  have hb2 : Below w.heap.size w w2 := hb1.trans (toBelow hg2 hs1 (fun k hk => (ho1.lt k hk).1))
  have hp2 := hp.ext hb2
  clear hbc hbf ho1 hb1 hg2 hs1
  have hbc := hp2.cell
  have hbf := hp2.frozen
  simp only [S8.cells] at hbc
  have hlt2 := ho2.lt
  have HLT := Lib.hid hlt2
  clear hlt2
  obtain ⟨a2, c2, rfl, hc2, _⟩ := ho2.byt.len
  go_wp2
  have hlp : ∀ k, (Value.slice a2 (l.length + bs.length) c2).ownBlock = some k → w.heap.size ≤ k := fun k hk => (HLT.out k (by simpa using hk)).1
  have hne : (Value.slice a2 (l.length + bs.length) c2).ownBlock ≠ some p := fun h => by have := hlp p h; omega
  have hB3 : Blk (w2.setCell ⟨p, 8, none⟩ (.slice a2 (l.length + bs.length) c2)) p (s.cells (.slice a2 (l.length + bs.length) c2)) 86 := hp2.set 8 _
  have hO3 : Only p w2 (w2.setCell ⟨p, 8, none⟩ (.slice a2 (l.length + bs.length) c2)) := (Only.refl p w2).set (.inl rfl) _
  have hY3 : Byt (w2.setCell ⟨p, 8, none⟩ (.slice a2 (l.length + bs.length) c2)) (.slice a2 (l.length + bs.length) c2) (l ++ bs) := by
    have := ho2.byt.only hO3 (by simpa using hne)
    simpa using this
  have hO4 : Only p w (w2.setCell ⟨p, 8, none⟩ (.slice a2 (l.length + bs.length) c2)) := (Only.ofBelow hb2 (Nat.le_refl _)).trans hO3
  clear hbc hbf ho2 hp2 hb2 HLT hO3 hne hp
  go_loopw [17] (fun _ wr => ∃ s' l' wv', Blk wr p (S8.cells s' wv') 86 ∧ Byt wr wv' l' ∧ absAll s' l' = absAll s (l ++ bs) ∧ (∀ k, wv'.ownBlock = some k → w.heap.size ≤ k) ∧ Only p w wr) (fun _ wr => match wr.cell? ⟨p, 8, none⟩ with | some (.slice _ n _) => n | _ => 0)
  case atStart => exact ⟨s, l ++ bs, _, hB3, hY3, rfl, hlp, hO4⟩
  case round =>
    obtain ⟨s', l', wv', hB, hY, hA, hF, hO⟩ := hrel
    clear hB3 hY3 hlp hO4 hw hb
    have HA := Lib.hid hA
    clear hA
    have hne : wv'.ownBlock ≠ some p := fun h => by have := hF p h; omega
    have hbc := hB.cell
    have hbf := hB.frozen
    simp only [S8.cells] at hbc
    by_cases h16 : l'.length < 16
    · obtain ⟨a', c', rfl, hc', hm'⟩ := hY.len
      have h16' : ¬ ((16 : Int) ≤ l'.length) := by omega
      have HF := Lib.hid hF
      clear hF
      go_wp2
      go_end0
      rw [← HA.out, absAll_lt h16]
      exact ⟨rfl, hO, _, hB, hY, hne, HF.out⟩
    · rcases hY with ⟨rfl, rfl⟩ | ⟨g, off, cap, rfl, h1, h2, h3, h4⟩
      · simp at h16
      have h16' : (16 : Int) ≤ l'.length := by omega
      have hg : g ≠ p := by simpa [Value.ownBlock] using hne
      have hgw : w.heap.size ≤ g := hF g rfl
      have hcap : (16 : Int) ≤ cap := by omega
      have h16n : 16 ≤ l'.length := by omega
      have hcapn : 16 ≤ cap := by omega
      have H4 := Lib.hid h4
      clear h4 hne hF
      go_wp2_with fail
      refine (take_any p s' _ g off cap (l'.take 16) wr hB hg h3 (by simp; omega) (fun i b hi => H4.out i b (by rw [List.getElem?_take] at hi; split at hi <;> first | exact hi | cases hi))).mono ?_
      rintro e w1 ⟨rfl, hO1, hB1⟩
      have hlt1 : g < w1.heap.size := Nat.lt_of_lt_of_le h3 hO1.size
      have h4' : ∀ (i : Nat) (b : UInt8), l'[i]? = some b → w1.cell? ⟨g, off + i, none⟩ = some (B b) := fun i b hi => (World.cell?_of_block (a := ⟨g, off + i, none⟩) (hO1.block g h3 hg)).trans (H4.out i b hi)
      have hc8 : wr.cell? ⟨p, 8, none⟩ = some (.slice (some ⟨g, off, none⟩) l'.length cap) := hB.cell 8
      have HC8 := Lib.hid hc8
      clear hc8
      have HB1 := Lib.hid hB1
      have HO1 := Lib.hid (hO.trans hO1)
      have H4' := Lib.hid h4'
      have hbc1 := hB1.cell
      have hbf1 := hB1.frozen
      simp only [S8.cells] at hbc1
      have hA' : absAll (absorb s' (l'.take 16)) (l'.drop 16) = absAll s (l ++ bs) := by rw [← HA.out, ← absAll_ge h16]
      have HA' := Lib.hid hA'
      clear hbc hbf hB hO hO1 h4' hB1 hA' HA H4
      have hge : ¬ (l'.length < 16) := h16
      clear h16
      by_cases hc16 : cap = 16
      · subst hc16
        have hl16 : l'.length = 16 := by omega
        have HL16 := Lib.hid hl16
        clear hl16
        go_wp2
        go_roundw
        case rel =>
          refine ⟨absorb s' (l'.take 16), l'.drop 16, _, HB1.out.set 8 _, ?_, HA'.out, fun k hk => by simp [Value.ownBlock] at hk; omega, HO1.out.set (.inl rfl) _⟩
          have h5 := (Byt.drop16 h16n h1 h2 hlt1 H4'.out off (.inr HL16.out)).only ((Only.refl p w1).set (x := ⟨p, 8, none⟩) (.inl rfl) (.slice (some ⟨g, off, none⟩) 0 0)) (by simpa [Value.ownBlock] using hg)
          simpa [HL16.out] using h5
        case measure =>
          rw [(HB1.out.set 8 _).cell, HC8.out]
          simp [S8.cells]; omega
      · go_wp2
        go_roundw
        case rel =>
          refine ⟨absorb s' (l'.take 16), l'.drop 16, _, HB1.out.set 8 _, ?_, HA'.out, fun k hk => by simp [Value.ownBlock] at hk; omega, HO1.out.set (.inl rfl) _⟩
          have h5 := (Byt.drop16 h16n h1 h2 hlt1 H4'.out (off + 16) (.inl rfl)).only ((Only.refl p w1).set (x := ⟨p, 8, none⟩) (.inl rfl) (.slice (some ⟨g, off + 16, none⟩) (l'.length - 16) (cap - 16))) (by simpa [Value.ownBlock] using hg)
          simpa using h5
        case measure =>
          rw [(HB1.out.set 8 _).cell, HC8.out]
          simp [S8.cells]; omega
end Go.Proofs.Ythpjihiikkhcjaa
namespace Go.Proofs.Ythpjihiikkhcjaa
open Go.RowKit Go.Sp
theorem madeZ (n : Nat) : madeCells (Value.int .u8 0).cells (n * 1) = ((List.replicate n (0 : UInt8)).map B).toArray := by
  have h := toList_madeCells_one (.int .u8 0) n
  apply Array.ext'
  rw [Nat.mul_one]
  simpa [Value.cells, show B 0 = Value.int .u8 0 from rfl] using h
set_option maxRecDepth 100000 in
set_option maxHeartbeats 2000000 in
theorem fill_any (p : Nat) (s : S8) (wv : Value) (l : List UInt8) (w : World) (hp : Blk w p (s.cells wv) 86) (hw : Byt w wv l) (hne : wv.ownBlock ≠ some p) (hl : l.length < 16) :
    Calls Try.prog 60 #[.pointer (some ⟨p, 0, none⟩)] w fun e w' => e = .returned (.tuple #[]) ∧ Only p w w' ∧ ∃ wv', Blk w' p ((absAll s (padBlk l)).1.cells wv') 86 ∧ Byt w' wv' [] ∧ wv'.ownBlock ≠ some p := by
  have hbc := hp.cell
  have hpl := hp.lt
  simp only [S8.cells] at hbc
  obtain ⟨a, c, rfl, hc, hm⟩ := hw.len
  by_cases h0 : l = []
  · subst h0
    have hn0 : ¬ ((0 : Int) < (([] : List UInt8).length : Int)) := by simp
    go_enter Try.func60, Try.ntmps60
    go_wp2
    go_end0
    refine ⟨rfl, Only.refl _ _, _, ?_, hw, hne⟩
    rw [show absAll s (padBlk []) = (s, []) by rw [absAll_lt (by simp [padBlk])]; simp [padBlk]]
    exact hp
  · have hpos : 0 < l.length := by
      rcases l with _ | _ <;> simp_all
    have hpos' : (0 : Int) < (l.length : Int) := by omega
    go_enter Try.func60, Try.ntmps60
    go_wp2_with (at_make; refine stop_here ?_)
    obtain ⟨i, hi, hz, hs1, hb1⟩ := byt29.info
    refine Stop.go (wpList_make_full w rfl _ _ 23 rfl w.heap.size 5 i (.int .u8 0) 1 Try.underlying23 hi hz hs1 .i64 .i64 _ _ (16 - l.length) rfl rfl ?_ ?_ (by rw [hb1]; omega) (by unfold maxLen; omega) (Nat.le_refl _) ?_)
    · omega
    · omega
    intro w1 ho1 hg1
    have hB1 : Below w.heap.size w w1 := toBelow hg1 (Nat.le_refl _) (by simp)
    rw [madeZ] at ho1
    have hO : Own 5 w.heap.size w1 (.slice (some ⟨w.heap.size, 0, none⟩) (16 - l.length) (16 - l.length)) (List.replicate (16 - l.length) 0) := by
      unfold Own; simpa using ho1
    clear hbc hpos'
    go_wp2_with fail
    refine (write_any p s _ _ l (List.replicate (16 - l.length) 0) w1 (hp.ext hB1) (hw.ext hB1) hO.byt (by simp; omega)).mono ?_
    rintro e w2 ⟨rfl, h2, wv', h3, h4, h5, h6⟩
    go_wp2
    go_end0
    have hpad : padBlk l = l ++ List.replicate (16 - l.length) 0 := by
      unfold padBlk; congr 2; omega
    refine ⟨rfl, (Only.ofBelow hB1 (Nat.le_refl _)).trans h2, wv', ?_, ?_, h5⟩
    · rw [hpad]; exact h3
    · rw [← hpad, absAll_whole _ _ (padBlk_length l)] at h4; exact h4
end Go.Proofs.Ythpjihiikkhcjaa
namespace Go.Proofs.Ythpjihiikkhcjaa
open Go.RowKit Go.Sp
theorem Byt.lt {w : World} {v : Value} {l : List UInt8} (h : Byt w v l) : ∀ k, v.ownBlock = some k → k < w.heap.size := by
  intro k hk
  rcases h with ⟨rfl, _⟩ | ⟨g, off, cap, rfl, _, _, h3, _⟩ <;> simp [Value.ownBlock] at hk
  subst hk; exact h3
theorem zero_cells : (#[.int .u32 0, .int .u32 0, .int .u32 0, .int .u32 0, .int .u32 0, .int .u32 0, .int .u32 0, .int .u32 0, .slice none 0 0] : Array Value) = S8.zero.cells (.slice none 0 0) := rfl
set_option maxRecDepth 100000 in
set_option maxHeartbeats 2000000 in
theorem new_any (kv : Value) (key : List UInt8) (w : World) (hk : Byt w kv key) (hl : key.length ≤ 549755813888) :
    Calls Try.prog 52 #[kv] w fun e w' => ∃ p wv, e = .returned (.pointer (some ⟨p, 0, none⟩)) ∧ w.heap.size ≤ p ∧ Below w.heap.size w w' ∧ Blk w' p ((keyS key).cells wv) 86 ∧ Byt w' wv [] ∧ wv.ownBlock ≠ some p := by
  have hklt := Byt.lt hk
  have HKL := Lib.hid hklt
  clear hklt
  obtain ⟨ka, kc, rfl, hkc, hkm⟩ := hk.len
  unfold maxLen at hkm
  go_enter Try.func52, Try.ntmps52
  go_wp2_with fail
  generalize hn : w.heap.size = n
  refine (number_any _ _).mono ?_
  rintro e w1 ⟨v1, rfl, ho1, hb1⟩
  rw [zero_cells] at ho1 hb1
  have hB0 : Blk (w.alloc (.cells (S8.zero.cells (.slice none 0 0)) 86)) n (S8.zero.cells (.slice none 0 0)) 86 := hn ▸ Blk.new w _ 86
  have hk0 : Byt (w.alloc (.cells (S8.zero.cells (.slice none 0 0)) 86)) (.slice ka key.length kc) key := hk.ext ((Below.refl _ _).alloc (Nat.le_refl _) _)
  have hk1 := hk0.ext hb1
  have hBel : Below n w w1 := ((hn ▸ (Below.refl n w).alloc (by omega) _ : Below n w (w.alloc (.cells (S8.zero.cells (.slice none 0 0)) 86)))).trans (hb1.mono (by simp; omega))
  have hB1 := hB0.ext hb1
  clear hB0 hk0 hb1 hk
  go_wp2_with fail
  refine (write_any n S8.zero _ v1 [] (eight key.length) w1 hB1 (Byt.nil _) ho1.byt (by simp [eight_length])).mono ?_
  rintro e w2 ⟨rfl, h2, wv2, h3, h4, h5, h6⟩
  have hk2 := hk1.only h2 (fun h => by have := HKL.out n h; omega)
  have hBel2 : Below n w w2 := hBel.trans (h2.below (Nat.le_refl _) (by have := hBel.size; omega))
  clear hB1 ho1 hBel h2 hk1
  go_wp2_with fail
  refine (write_any n _ _ _ _ key w2 h3 h4 hk2 (by rw [absAll_waits]; omega)).mono ?_
  rintro e w3 ⟨rfl, g2, wv3, g3, g4, g5, g6⟩
  have hBel3 : Below n w w3 := hBel2.trans (g2.below (Nat.le_refl _) (by have := hBel2.size; omega))
  clear h3 h4 h5 h6 hk2 hBel2 g2
  go_wp2_with fail
  refine (fill_any n _ _ _ w3 g3 g4 g5 (by rw [absAll_waits]; omega)).mono ?_
  rintro e w4 ⟨rfl, f2, wv4, f3, f4, f5⟩
  have hBel4 : Below n w w4 := hBel3.trans (f2.below (Nat.le_refl _) (by have := hBel3.size; omega))
  go_wp2
  go_ret
  refine ⟨n, wv4, rfl, by omega, hn ▸ hBel4, ?_, f4, f5⟩
  rw [List.nil_append, ← absAll_append, ← absAll_pad] at f3
  exact f3
end Go.Proofs.Ythpjihiikkhcjaa
namespace Go.Proofs.Ythpjihiikkhcjaa
open Go.RowKit Go.Sp
theorem cells_lit (s : S8) (v : Value) : (#[W s.a, W s.b, W s.c, W s.d, W s.e, W s.f, W s.g, W s.h, v] : Array Value) = s.cells v := rfl
set_option maxRecDepth 100000 in
set_option maxHeartbeats 2000000 in
theorem sum_any (p : Nat) (s : S8) (wv : Value) (l : List UInt8) (w : World) (hp : Blk w p (s.cells wv) 86) (hw : Byt w wv l) (hl : l.length < 16) :
    Calls Try.prog 61 #[.pointer (some ⟨p, 0, none⟩)] w fun e w' => e = .returned (.agg ((sumB s l).map B).toArray) ∧ Below w.heap.size w w' := by
  have hbc := hp.cell
  have hpl := hp.lt
  simp only [S8.cells] at hbc
  obtain ⟨wa, wc, rfl, _, hwm⟩ := hw.len
  go_enter Try.func61, Try.ntmps61
  go_wp2
  refine wp_region_still_tail 9 (by kernel_rfl) (by kernel_rfl) ?_
  simp only [World.drew_eq, List.take_succ_cons, List.take_zero, List.drop_succ_cons, List.drop_zero]
  repeat still_step
  refine wpStill_nil ?_
  clear hbc
  go_wp2_with fail
  refine (write_any (w.heap.size + 1) s _ _ l [128] _ (Blk.drew (Blk.alloc (Blk.newAt (by simp) (s.cells _) 86) _)) (hw.ext ?_) (Byt.drew (Byt.ofBlk (l := [128]) (t := 5) (Blk.newAt (by simp) _ _) (by simp [maxLen]))) (by simp; omega)).mono ?_
  · exact ((((Below.refl _ _).alloc (Nat.le_refl _) _).alloc (by simp) _).alloc (by simp; omega) _).drew
  rintro e w2 ⟨rfl, a2, wv2, a3, a4, a5, a6⟩
  have hB2 : Below w.heap.size w w2 := ((((((Below.refl _ _).alloc (Nat.le_refl _) _).alloc (by simp) _).alloc (by simp; omega) _).drew)).trans (a2.below (by omega) (by simp; omega))
  have hR2 := (Blk.drew (Blk.alloc (Blk.alloc (Blk.new w _ 65) (.cells (s.cells (.slice wa l.length wc)) 86)) (.cells ([128].map B).toArray 5))).only a2 (by omega)
  clear a2 a6
  go_wp2_with fail
  refine (fill_any (w.heap.size + 1) _ _ _ w2 a3 a4 a5 (by rw [absAll_waits]; omega)).mono ?_
  rintro e w3 ⟨rfl, b2, wv3, b3, b4, b5⟩
  go_wp2_with fail
  have hR3 := hR2.only b2 (by omega)
  have hB3 : Below w.heap.size w w3 := hB2.trans (b2.below (by omega) (by have := hB2.size; omega))
  have hpl3 := b3.lt
  generalize hS : (absAll (absAll s (l ++ [128])).fst (padBlk (absAll s (l ++ [128])).snd)).fst = S at *
  have HS := Lib.hid hS
  have hbc := b3.cell
  have hbf := b3.frozen
  have HB := Lib.hid b3
  have HR := Lib.hid hR3
  have HW := Lib.hid hB3
  simp only [S8.cells] at hbc
  clear hS a3 a4 a5 b2 b4 b5 b3 hR2 hR3 hB2 hB3 hp hw hpl
  refine wp_region_still_tail 9 (by kernel_rfl) (by kernel_rfl) ?_
  simp only [World.drew_eq, List.take_succ_cons, List.take_zero, List.drop_succ_cons, List.drop_zero]
  repeat still_step
  refine wpStill_nil ?_
  go_wp2_with fail
  have hB4 := HB.out.drew.set 7 (W (S.h ^^^ w32 1))
  clear hbc hbf
  refine (mix_any ⟨S.a, S.b, S.c, S.d, S.e, S.f, S.g, S.h ^^^ w32 1⟩ _).mono ?_
  rintro e w5 ⟨rfl, h5⟩
  have hB5 := hB4.ext h5
  have hR5 := (HR.out.drew.setOther ⟨w.heap.size + 1, 7, none⟩ (W (S.h ^^^ w32 1)) (by simp)).ext h5
  have hb5 : Below w.heap.size w w5 := ((HW.out.drew).setCell (p := ⟨w.heap.size + 1, 7, none⟩) (by simp) (W (S.h ^^^ w32 1))).trans (Below.mono h5 (by have := HW.out.size; simp; omega))
  have ht : w5.there (w.heap.size + 1) 0 8 := Blk.there8 (s := ⟨S.a, S.b, S.c, S.d, S.e, S.f, S.g, S.h ^^^ w32 1⟩) hB5
  have HT := Lib.hid ht
  generalize hm : mix _ = m at *
  have HM := Lib.hid hm
  clear h5 hB4 HB HR HW hm ht
  go_wp2_with (refine (show wpList _ _ _ (⟨none, .store 25 (.tmp 37) (.tmp 35), _, _, _, _⟩ :: _) _ _ from stop_here ?_))
  refine Stop.go (wpList_store_mid rfl 25 (.tmp 37) (.tmp 35) rfl (w.heap.size + 1) 0 m.vals rfl rfl HT.out (by kernel_rfl) (vals_one m) ?_)
  have hB6 := hB5.setCells m.vals.toList 0
  have hR6 := hR5.setCellsOther m.vals.toList 0 (by omega : w.heap.size ≠ w.heap.size + 1)
  have hb6 := Go.Sp.Below.setCells (g := w.heap.size + 1) m.vals.toList 0 hb5 (by omega)
  generalize World.setCells w5 _ _ _ = w6 at *
  have hpl6 := hB6.lt
  have hB7 : Blk w6 (w.heap.size + 1) (m.cells wv3) 86 := by simpa [putL, S8.vals, S8.cells] using hB6
  clear hB6
  go_wp2
  have hz : (#[Value.int .u8 0, .int .u8 0, .int .u8 0, .int .u8 0, .int .u8 0, .int .u8 0, .int .u8 0, .int .u8 0, .int .u8 0, .int .u8 0, .int .u8 0, .int .u8 0, .int .u8 0, .int .u8 0, .int .u8 0, .int .u8 0] : Array Value) = fillA (fun i => B (outb m i)) (.int .u8 0) 16 0 := rfl
  rw [hz]
  clear hz
  go_loopw [38, 5] (fun i _ wr => ∃ k : Nat, k ≤ 16 ∧ i = .int .i64 k ∧ wr = w6.alloc (.cells (fillA (fun i => B (outb m i)) (.int .u8 0) 16 k) 65)) (fun i _ _ => (16 - intOf i).toNat)
  case atStart => exact ⟨0, by omega, rfl, rfl⟩
  case round =>
    obtain ⟨k, hk, rfl, rfl⟩ := hrel
    by_cases h16 : k < 16
    · have hg := fillA_get (fun i => B (outb m i)) (.int .u8 0) 16 k k h16
      rw [if_neg (by omega)] at hg
      have hcw : w6.cell? ⟨w.heap.size + 1, k / 4, none⟩ = some (W (m.word (k / 4))) := by
        rw [hB7.cell]
        have h4 : k / 4 = 0 ∨ k / 4 = 1 ∨ k / 4 = 2 ∨ k / 4 = 3 := by omega
        rcases h4 with h4 | h4 | h4 | h4 <;> rw [h4] <;> simp [S8.cells, S8.word]
      have hs0 : (0 : Int) ≤ 8 * ((k : Int) % 4) := by omega
      have hs1 : 8 * ((k : Int) % 4) ≤ 32 := by omega
      have hq0 : (0 : Int) ≤ (k : Int) / 4 := by omega
      have hq4 : (k : Int) / 4 < 4 := by omega
      go_wp2
      go_roundw
      case rel => exact ⟨k + 1, by omega, by go_num, by rw [← fillA_next]; rfl⟩
      case measure => simp [intOf]; omega
    · obtain rfl : k = 16 := by omega
      have hF : fillA (fun i => B (outb m i)) (.int .u8 0) 16 16 = ((outB m).map B).toArray := by
        rw [fillA_all _ _ _ _ (Nat.le_refl _)]; simp [outB, Function.comp_def]
      rw [hF]
      have hsz : ((outB m).map B).toArray.size = 16 := by simp [outB_length]
      have HSZ := Lib.hid hsz
      have hone : ((outB m).map B).toArray.all (·.oneCell') = true := by simp [Value.oneCell']
      have HONE := Lib.hid hone
      clear hF hsz hone
      generalize hOUT : ((outB m).map B).toArray = OUT at *
      have HOUT := Lib.hid hOUT
      clear hOUT
      go_wp2_with (refine (show wpList _ _ _ (⟨some 56, .load 65 (.tmp 4), _, _, _, _⟩ :: _) _ _ from stop_here ?_))
      refine Stop.go (wpList_load_row rfl 65 (.tmp 4) rfl w6.heap.size rfl 65 OUT (0, 0) _ (Blk.new w6 OUT 65) Try.underlying65 rfl (by rw [HSZ.out]; kernel_rfl) ?_)
      go_wp2_with (refine (show wpList _ _ _ (⟨none, .store 65 (.tmp 2) (.tmp 56), _, _, _, _⟩ :: _) _ _ from stop_here ?_))
      have hR7 : Blk (w6.alloc (.cells OUT 65)) w.heap.size _ 65 := hR6.alloc _
      have ht7 : (w6.alloc (.cells OUT 65)).there w.heap.size 0 OUT.size := fun j hj => by
        rw [HSZ.out] at hj
        refine ⟨?_, hR7.frozen _⟩
        rw [hR7.cell]
        simp; omega
      refine Stop.go (wpList_store_mid rfl 65 (.tmp 2) (.tmp 56) rfl w.heap.size 0 OUT rfl rfl ht7 (by rw [HSZ.out]; kernel_rfl) HONE.out ?_)
      have hR8 := hR7.setCells OUT.toList 0
      rw [putL_all _ _ (by rw [Array.length_toList, HSZ.out]; rfl)] at hR8
      have hb8 := Go.Sp.Below.setCells (g := w.heap.size) OUT.toList 0 (hb6.alloc hb6.size (.cells OUT 65)) (Nat.le_refl _)
      generalize World.setCells (w6.alloc _) _ _ _ = w8 at *
      go_wp2
      refine bodyPost_ret (results_cell_row rfl _ _ w.heap.size 65 OUT (0, 0) _ rfl (show Blk w8 w.heap.size OUT 65 by simpa using hR8) Try.underlying65 rfl (by rw [HSZ.out]; kernel_rfl)) rfl ⟨?_, hb8⟩
      rw [← HOUT.out, ← HM.out, sumB, seal7, absAll_pad, HS.out]
      rfl
end Go.Proofs.Ythpjihiikkhcjaa
namespace Go.Sp
open Go.RowKit
/-- An array's value goes into a whole block. -/
theorem wpList_store_blk {P : Program} {ops : Array Oper} {rest : List Oper} {op : Oper} {a : Act} {w : World} {Q : Exit → Act → World → Prop} {ty t : TypeId} {x y : Operand} {n : Nat} {z out : Array Value}
    (hgd : op.guard = none) (ho : op.op = .store ty x y) (hx : a.eval x = .pointer (some ⟨n, 0, none⟩)) (hy : a.eval y = .agg out) (hR : Blk w n z t) (hz : z.size = out.size) (hi : (P.info? ty).map (·.size) = some out.size) (h1 : out.all (·.oneCell') = true)
    (h : ∀ w', Blk w' n out t → Only n w w' → wpList P ops Q rest (a.put op.dst undef) w') : wpList P ops Q (op :: rest) a w := by
  refine wpList_store_mid hgd ty x y ho n 0 out hx hy (fun j hj => ⟨?_, hR.frozen _⟩) hi h1 (h _ ?_ ((Only.refl n w).setCells _ _ (.inl rfl)))
  · rw [hR.cell]; simp; omega
  · have := hR.setCells out.toList 0
    rw [putL_all _ _ (by rw [Array.length_toList, hz])] at this
    simpa using this
theorem bytes_one (l : List UInt8) : (l.map B).toArray.all (·.oneCell') = true := by simp [Value.oneCell']
end Go.Sp
namespace Go.Sp
open Go.RowKit
/-- A slice of slices of bytes. -/
def Lst (w : World) (v : Value) (ls : List (List UInt8)) : Prop :=
  (v = .slice none 0 0 ∧ ls = []) ∨
  ∃ g off cap, v = .slice (some ⟨g, off, none⟩) ls.length cap ∧ ls.length ≤ cap ∧ cap ≤ maxLen ∧ g < w.heap.size ∧ ∀ (i : Nat) (l : List UInt8), ls[i]? = some l → ∃ u, w.cell? ⟨g, off + i, none⟩ = some u ∧ Byt w u l
theorem Lst.ext {w w' : World} {v : Value} {ls : List (List UInt8)} (h : Lst w v ls) (e : Below w.heap.size w w') : Lst w' v ls := by
  rcases h with h | ⟨g, off, cap, rfl, h1, h2, h3, h4⟩
  · exact .inl h
  · refine .inr ⟨g, off, cap, rfl, h1, h2, Nat.lt_of_lt_of_le h3 e.size, fun i l hi => ?_⟩
    obtain ⟨u, hu, hb⟩ := h4 i l hi
    exact ⟨u, (World.cell?_of_block (a := ⟨g, off + i, none⟩) (e.block g h3)).trans hu, hb.ext e⟩
theorem Lst.nil (w : World) : Lst w (.slice none 0 0) [] := .inl ⟨rfl, rfl⟩
theorem Byt.lt' {w : World} {v : Value} {l : List UInt8} (h : Byt w v l) : ∀ k, v.ownBlock = some k → k < w.heap.size := by
  intro k hk
  rcases h with ⟨rfl, _⟩ | ⟨g, off, cap, rfl, _, _, h3, _⟩ <;> simp [Value.ownBlock] at hk
  subst hk; exact h3
theorem flat_snoc (ls : List (List UInt8)) (l : List UInt8) : flat (ls ++ [l]) = flat ls ++ (eight l.length ++ l) := by simp [flat]
end Go.Sp
namespace Go.Proofs.Ythpjihiikkhcjaa
open Go.RowKit Go.Sp
set_option maxRecDepth 100000 in
set_option maxHeartbeats 2000000 in
theorem put_any (p : Nat) (s : S8) (wv v : Value) (ls : List (List UInt8)) (w0 w : World) (hp : Blk w p (s.cells wv) 86) (hw : Byt w wv []) (hne : wv.ownBlock ≠ some p)
    (hL : Lst w0 v ls) (hb : Below w0.heap.size w0 w) (hp0 : w0.heap.size ≤ p) (hls : ∀ l ∈ ls, l.length ≤ 549755813888) :
    Calls Try.prog 53 #[.pointer (some ⟨p, 0, none⟩), v] w fun e w' => e = .returned (.agg ((sumB s (flat ls)).map B).toArray) ∧ Only p w w' := by
  have hlen : ∃ a c, v = .slice a ls.length c ∧ c ≤ maxLen ∧ ls.length ≤ c := by
    rcases hL with ⟨rfl, rfl⟩ | ⟨g, off, cap, rfl, h1, h2, _⟩
    · exact ⟨none, 0, rfl, by unfold maxLen; omega, by simp⟩
    · exact ⟨_, _, rfl, h2, h1⟩
  obtain ⟨a, c, rfl, hcm, hlc⟩ := hlen
  unfold maxLen at hcm
  have hplt := hp.lt
  have HHB := Lib.hid hb
  have HLL := Lib.hid hL
  have HLS := Lib.hid hls
  clear hb hL hls
  go_enter Try.func53, Try.ntmps53
  go_wp2
  go_loopw [9, 6] (fun i _ wr => ∃ (k : Nat) (s' : S8) (l' : List UInt8) (wv' : Value), k ≤ ls.length ∧ i = .int .i64 k ∧ Blk wr p (s'.cells wv') 86 ∧ Byt wr wv' l' ∧ wv'.ownBlock ≠ some p ∧ absAll s (flat (ls.take k)) = (s', l') ∧ Only p w wr ∧ Blk wr w.heap.size ((List.replicate 16 (0 : UInt8)).map B).toArray 65) (fun i _ _ => (ls.length - intOf i).toNat)
  case atStart =>
    refine ⟨0, s, [], wv, by omega, rfl, hp.alloc _, hw.ext ((Below.refl _ _).alloc (Nat.le_refl _) _), hne, ?_, (Only.refl p w).alloc _, Blk.new w _ 65⟩
    rw [absAll_lt (by simp [flat])]; simp [flat]
  case round =>
    obtain ⟨k, s', l', wv', hk, rfl, hB, hY, hN, hA, hO, hR⟩ := hrel
    have hbw : Below w0.heap.size w0 wr := HHB.out.trans (hO.below hp0 HHB.out.size)
    have hsz := hO.size
    have hl16 : l'.length < 16 := by have := absAll_waits s (flat (ls.take k)); rw [hA] at this; simp only at this; omega
    have HA := Lib.hid hA
    clear hA hp hw hne
    by_cases hlt : k < ls.length
    · obtain ⟨l, hl⟩ : ∃ l, ls[k]? = some l := ⟨ls[k], by simp [hlt]⟩
      have hls := HLS.out l (List.mem_of_getElem? hl)
      rcases HLL.out with ⟨_, rfl⟩ | ⟨g, off, cap, hv, _, _, hg, h4⟩
      · simp at hlt
      simp only [Value.slice.injEq, true_and] at hv
      obtain ⟨rfl, rfl⟩ := hv
      obtain ⟨u, hu, hub⟩ := h4 k l hl
      have hcell : wr.cell? ⟨g, off + k, none⟩ = some u := (World.cell?_of_block (a := ⟨g, off + k, none⟩) (hbw.block g hg)).trans hu
      have hubr := hub.ext hbw
      have hult := hub.lt'
      have HULT := Lib.hid hult
      have HL := Lib.hid hl
      clear h4 hult hl hu hub
      obtain ⟨ua, uc, rfl, _, hum⟩ := hubr.len
      unfold maxLen at hum
      go_wp2_with fail
      refine (number_any _ _).mono ?_
      rintro e w1 ⟨v1, rfl, ho1, hb1⟩
      have hB1 := hB.ext hb1
      have hY1 := hY.ext hb1
      have hR1 := hR.ext hb1
      have hu1 := hubr.ext hb1
      have hO1 := hO.trans (Only.ofBelow hb1 (Nat.le_refl _))
      clear hB hY hR hubr hO hb1 hcell
      go_wp2_with fail
      refine (write_any p s' _ _ l' (eight l.length) w1 hB1 hY1 ho1.byt (by rw [eight_length]; omega)).mono ?_
      rintro e w2 ⟨rfl, h2, wv2, h3, h5, h6, h7⟩
      have hu2 := hu1.only h2 (fun h => by have := HULT.out p h; omega)
      have hR2 := hR1.only h2 (by omega)
      have hO2 := hO1.trans h2
      clear hB1 hY1 ho1 hu1 hR1 hO1 h2 h7
      go_wp2_with fail
      refine (write_any p _ _ _ _ l w2 h3 h5 hu2 (by rw [absAll_waits]; omega)).mono ?_
      rintro e w3 ⟨rfl, g2, wv3, g3, g5, g6, g7⟩
      have hR3 := hR2.only g2 (by omega)
      have hO3 := hO2.trans g2
      have hE : absAll s (flat (ls.take (k + 1))) = absAll (absAll s' (l' ++ eight l.length)).1 ((absAll s' (l' ++ eight l.length)).2 ++ l) := by
        rw [List.take_add_one, HL.out, Option.toList_some, flat_snoc, ← List.append_assoc, absAll_append, absAll_append s, HA.out]
      have HE := Lib.hid hE
      clear h3 h5 h6 hu2 hR2 hO2 g2 g7 hE
      go_wp2
      go_roundw
      case rel => exact ⟨k + 1, _, _, wv3, by omega, by go_num, g3, g5, g6, HE.out, hO3, hR3⟩
      case measure => simp [intOf]; omega
    · obtain rfl : k = ls.length := by omega
      go_wp2_with fail
      refine (sum_any p s' _ l' wr hB hY hl16).mono ?_
      rintro e w1 ⟨rfl, hb1⟩
      have hR1 := hR.ext hb1
      have hO1 := hO.trans (Only.ofBelow hb1 (Nat.le_refl _))
      rw [List.take_length] at HA
      have hS : sumB s' l' = sumB s (flat ls) := by
        have := sumB_abs s (flat ls) []
        rw [HA.out] at this
        simpa using this
      rw [hS]
      have hsz16 : ((sumB s (flat ls)).map B).toArray.size = 16 := by simp [sumB_length]
      have HSZ := Lib.hid hsz16
      have HONE := Lib.hid (bytes_one (sumB s (flat ls)))
      clear hS hsz16
      generalize hOUT : ((sumB s (flat ls)).map B).toArray = OUT at *
      have HOUT := Lib.hid hOUT
      clear hOUT
      go_wp2_with (refine (show wpList _ _ _ (⟨none, .store 65 (.tmp 4) (.tmp 23), _, _, _, _⟩ :: _) _ _ from stop_here ?_))
      refine Stop.go (wpList_store_blk rfl rfl rfl rfl hR1 (by rw [HSZ.out]; rfl) (by rw [HSZ.out]; kernel_rfl) HONE.out ?_)
      intro w2 hR2 hO2
      have hO3 : Only p w w2 := ⟨hO2.os.trans hO1.os, hO2.tape.trans hO1.tape, hO2.output.trans hO1.output, Nat.le_trans hO1.size hO2.size, fun j hj hn => (hO2.block j (Nat.lt_of_lt_of_le hj hO1.size) (by omega)).trans (hO1.block j hj hn)⟩
      clear hO1 hO2 hR1
      go_wp2
      exact bodyPost_ret (results_cell_row rfl _ _ w.heap.size 65 OUT (0, 0) _ rfl hR2 Try.underlying65 rfl (by rw [HSZ.out]; kernel_rfl)) rfl ⟨by rw [HOUT.out], hO3⟩
end Go.Proofs.Ythpjihiikkhcjaa
