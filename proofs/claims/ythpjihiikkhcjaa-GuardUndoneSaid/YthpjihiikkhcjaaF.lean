/-
  A part of the proofs of this seat: laws of the walk, or contracts of the functions that the statements reach. No conditions but those that each theorem names.
-/
import Derived.Test.YthpjihiikkhcjaaE
import Derived.Test.YthpjihiikkhcjaaA
import Derived.Test.YthpjihiikkhcjaaFacts
namespace Go.Proofs.Ythpjihiikkhcjaa
open Go.RowKit Go.Sp
/-- What the rounds have made of the words. -/
def takeC (s : S8) (wv : Value) (b0 b1 b2 b3 b4 b5 b6 b7 b8 b9 b10 b11 b12 b13 b14 b15 : UInt8) : Nat → Array Value
  | 0 => #[W s.a, W s.b, W s.c, W s.d, W s.e, W s.f, W s.g, W s.h, wv]
  | 1 => #[W (s.a ^^^ le b0 b1 b2 b3), W s.b, W s.c, W s.d, W s.e, W s.f, W s.g, W s.h, wv]
  | 2 => #[W (s.a ^^^ le b0 b1 b2 b3), W (s.b ^^^ le b4 b5 b6 b7), W s.c, W s.d, W s.e, W s.f, W s.g, W s.h, wv]
  | 3 => #[W (s.a ^^^ le b0 b1 b2 b3), W (s.b ^^^ le b4 b5 b6 b7), W (s.c ^^^ le b8 b9 b10 b11), W s.d, W s.e, W s.f, W s.g, W s.h, wv]
  | _ => #[W (s.a ^^^ le b0 b1 b2 b3), W (s.b ^^^ le b4 b5 b6 b7), W (s.c ^^^ le b8 b9 b10 b11), W (s.d ^^^ le b12 b13 b14 b15), W s.e, W s.f, W s.g, W s.h, wv]
set_option maxRecDepth 100000 in
set_option maxHeartbeats 4000000 in
theorem take_raw (p : Nat) (s : S8) (wv : Value) (g off cap : Nat) (b0 b1 b2 b3 b4 b5 b6 b7 b8 b9 b10 b11 b12 b13 b14 b15 : UInt8) (w : World) (hp : Blk w p (s.cells wv) 86) (hg : g ≠ p) (hlt : g < w.heap.size)
    (hc : ∀ i, i < 16 → w.cell? ⟨g, off + i, none⟩ = lookL [B b0, B b1, B b2, B b3, B b4, B b5, B b6, B b7, B b8, B b9, B b10, B b11, B b12, B b13, B b14, B b15] i) :
    Calls Try.prog 64 #[.pointer (some ⟨p, 0, none⟩), .slice (some ⟨g, off, none⟩) 16 cap] w fun e w' => e = .returned (.tuple #[]) ∧ Only p w w' ∧ Blk w' p ((absorb s [b0, b1, b2, b3, b4, b5, b6, b7, b8, b9, b10, b11, b12, b13, b14, b15]).cells wv) 86 := by
  go_enter Try.func64, Try.ntmps64
  go_wp2
  go_loopw [5, 4] (fun i _ wr => ∃ k : Nat, k ≤ 4 ∧ i = .int .i64 k ∧ Only p w wr ∧ Blk wr p (takeC s wv b0 b1 b2 b3 b4 b5 b6 b7 b8 b9 b10 b11 b12 b13 b14 b15 k) 86) (fun i _ _ => (4 - intOf i).toNat)
  case atStart => exact ⟨0, by omega, rfl, Only.refl _ _, hp⟩
  case round =>
    obtain ⟨k, hk, rfl, ho, hb⟩ := hrel
    have hlt' := hb.lt
    have hbf := hb.frozen
    have hbc := hb.cell
    have hgb := ho.block g hlt hg
    have hd : ∀ i, i < 16 → wr.drew.cell? ⟨g, off + i, none⟩ = lookL [B b0, B b1, B b2, B b3, B b4, B b5, B b6, B b7, B b8, B b9, B b10, B b11, B b12, B b13, B b14, B b15] i := fun i hi => by
      rw [← hc i hi]
      exact World.cell?_of_block (a := ⟨g, off + i, none⟩) hgb
    clear hgb
    have hk5 : k = 0 ∨ k = 1 ∨ k = 2 ∨ k = 3 ∨ k = 4 := by omega
    rcases hk5 with rfl | rfl | rfl | rfl | rfl
    · go_wp2
      refine wp_region_T 43 (by kernel_rfl) (by kernel_rfl) (by kernel_rfl) ?_
      simp only [List.take_succ_cons, List.take_zero, List.drop_succ_cons, List.drop_zero]
      have hcL := hb.drew.cellL
      clear hbc hbf
      refine E_move (rho_base rfl rfl) ?_
      refine E_move (rho_base rfl rfl) ?_
      refine E_nilCheck (rho_env rfl) ?_
      refine E_fieldAddr (rho_env rfl) fo62_0 ?_
      refine E_indexArr (rho_env rfl) (rho_env rfl) ar25 ⟨by decide, by decide, rfl⟩ ?_
      refine E_load (rho_env rfl) on24 (by first | exact ((hcL _).trans rfl) | exact ((hd _ (by decide)).trans rfl)) ?_
      refine E_move (rho_base rfl rfl) ?_
      refine E_move (rho_base rfl rfl) ?_
      refine E_mulI rho_const (rho_env rfl) ⟨rfl, by decide, by decide⟩ ?_
      refine E_indexSl (rho_env rfl) (rho_env rfl) sl29 ⟨by decide, by decide, rfl⟩ ?_
      refine E_load (rho_env rfl) on5 (by first | exact ((hcL _).trans rfl) | exact ((hd _ (by decide)).trans rfl)) ?_
      refine E_convBW (rho_env rfl) Try.underlying5 Try.underlying24 ?_
      refine E_move (rho_base rfl rfl) ?_
      refine E_move (rho_base rfl rfl) ?_
      refine E_mulI rho_const (rho_env rfl) ⟨rfl, by decide, by decide⟩ ?_
      refine E_addI (rho_env rfl) rho_const ⟨rfl, by decide, by decide⟩ ?_
      refine E_indexSl (rho_env rfl) (rho_env rfl) sl29 ⟨by decide, by decide, rfl⟩ ?_
      refine E_load (rho_env rfl) on5 (by first | exact ((hcL _).trans rfl) | exact ((hd _ (by decide)).trans rfl)) ?_
      refine E_convBW (rho_env rfl) Try.underlying5 Try.underlying24 ?_
      refine E_shlW (rho_env rfl) rho_const ⟨by decide, by decide⟩ ?_
      refine E_orW (rho_env rfl) (rho_env rfl) ?_
      refine E_move (rho_base rfl rfl) ?_
      refine E_move (rho_base rfl rfl) ?_
      refine E_mulI rho_const (rho_env rfl) ⟨rfl, by decide, by decide⟩ ?_
      refine E_addI (rho_env rfl) rho_const ⟨rfl, by decide, by decide⟩ ?_
      refine E_indexSl (rho_env rfl) (rho_env rfl) sl29 ⟨by decide, by decide, rfl⟩ ?_
      refine E_load (rho_env rfl) on5 (by first | exact ((hcL _).trans rfl) | exact ((hd _ (by decide)).trans rfl)) ?_
      refine E_convBW (rho_env rfl) Try.underlying5 Try.underlying24 ?_
      refine E_shlW (rho_env rfl) rho_const ⟨by decide, by decide⟩ ?_
      refine E_orW (rho_env rfl) (rho_env rfl) ?_
      refine E_move (rho_base rfl rfl) ?_
      refine E_move (rho_base rfl rfl) ?_
      refine E_mulI rho_const (rho_env rfl) ⟨rfl, by decide, by decide⟩ ?_
      refine E_addI (rho_env rfl) rho_const ⟨rfl, by decide, by decide⟩ ?_
      refine E_indexSl (rho_env rfl) (rho_env rfl) sl29 ⟨by decide, by decide, rfl⟩ ?_
      refine E_load (rho_env rfl) on5 (by first | exact ((hcL _).trans rfl) | exact ((hd _ (by decide)).trans rfl)) ?_
      refine E_convBW (rho_env rfl) Try.underlying5 Try.underlying24 ?_
      refine E_shlW (rho_env rfl) rho_const ⟨by decide, by decide⟩ ?_
      refine E_orW (rho_env rfl) (rho_env rfl) ?_
      refine E_xorW (rho_env rfl) (rho_env rfl) ?_
      refine E_nilCheck (rho_env rfl) ?_
      refine E_fieldAddr (rho_env rfl) fo62_0 ?_
      refine E_indexArr (rho_env rfl) (rho_env rfl) ar25 ⟨by decide, by decide, rfl⟩ ?_
      refine E_nil ?_
      clear hcL
      have hbc := hb.drew.cell
      have hbf := hb.drew.frozen
      simp only [takeC] at hbc
      refine wpList_norm (rfl : setsL _ 0 _ = [_, _, _, _, _, _, _, _, _, _, _, _, _, _, _, _, _, _, _, _, _, _, _, _, _, _, _, _, _, _, _, _, _, _, _, _, _, _, _, _, _, _, _, _, _, _, _, _, _, _, _, _, _, _, _, _, _, _, _, _]) ?_
      go_wp2
      go_roundw
      case rel => exact ⟨1, by omega, rfl, ho.drew.set (.inl rfl) _, (hb.drew.set 0 _)⟩
      case measure => simp [intOf]
    · go_wp2
      refine wp_region_T 43 (by kernel_rfl) (by kernel_rfl) (by kernel_rfl) ?_
      simp only [List.take_succ_cons, List.take_zero, List.drop_succ_cons, List.drop_zero]
      have hcL := hb.drew.cellL
      clear hbc hbf
      refine E_move (rho_base rfl rfl) ?_
      refine E_move (rho_base rfl rfl) ?_
      refine E_nilCheck (rho_env rfl) ?_
      refine E_fieldAddr (rho_env rfl) fo62_0 ?_
      refine E_indexArr (rho_env rfl) (rho_env rfl) ar25 ⟨by decide, by decide, rfl⟩ ?_
      refine E_load (rho_env rfl) on24 (by first | exact ((hcL _).trans rfl) | exact ((hd _ (by decide)).trans rfl)) ?_
      refine E_move (rho_base rfl rfl) ?_
      refine E_move (rho_base rfl rfl) ?_
      refine E_mulI rho_const (rho_env rfl) ⟨rfl, by decide, by decide⟩ ?_
      refine E_indexSl (rho_env rfl) (rho_env rfl) sl29 ⟨by decide, by decide, rfl⟩ ?_
      refine E_load (rho_env rfl) on5 (by first | exact ((hcL _).trans rfl) | exact ((hd _ (by decide)).trans rfl)) ?_
      refine E_convBW (rho_env rfl) Try.underlying5 Try.underlying24 ?_
      refine E_move (rho_base rfl rfl) ?_
      refine E_move (rho_base rfl rfl) ?_
      refine E_mulI rho_const (rho_env rfl) ⟨rfl, by decide, by decide⟩ ?_
      refine E_addI (rho_env rfl) rho_const ⟨rfl, by decide, by decide⟩ ?_
      refine E_indexSl (rho_env rfl) (rho_env rfl) sl29 ⟨by decide, by decide, rfl⟩ ?_
      refine E_load (rho_env rfl) on5 (by first | exact ((hcL _).trans rfl) | exact ((hd _ (by decide)).trans rfl)) ?_
      refine E_convBW (rho_env rfl) Try.underlying5 Try.underlying24 ?_
      refine E_shlW (rho_env rfl) rho_const ⟨by decide, by decide⟩ ?_
      refine E_orW (rho_env rfl) (rho_env rfl) ?_
      refine E_move (rho_base rfl rfl) ?_
      refine E_move (rho_base rfl rfl) ?_
      refine E_mulI rho_const (rho_env rfl) ⟨rfl, by decide, by decide⟩ ?_
      refine E_addI (rho_env rfl) rho_const ⟨rfl, by decide, by decide⟩ ?_
      refine E_indexSl (rho_env rfl) (rho_env rfl) sl29 ⟨by decide, by decide, rfl⟩ ?_
      refine E_load (rho_env rfl) on5 (by first | exact ((hcL _).trans rfl) | exact ((hd _ (by decide)).trans rfl)) ?_
      refine E_convBW (rho_env rfl) Try.underlying5 Try.underlying24 ?_
      refine E_shlW (rho_env rfl) rho_const ⟨by decide, by decide⟩ ?_
      refine E_orW (rho_env rfl) (rho_env rfl) ?_
      refine E_move (rho_base rfl rfl) ?_
      refine E_move (rho_base rfl rfl) ?_
      refine E_mulI rho_const (rho_env rfl) ⟨rfl, by decide, by decide⟩ ?_
      refine E_addI (rho_env rfl) rho_const ⟨rfl, by decide, by decide⟩ ?_
      refine E_indexSl (rho_env rfl) (rho_env rfl) sl29 ⟨by decide, by decide, rfl⟩ ?_
      refine E_load (rho_env rfl) on5 (by first | exact ((hcL _).trans rfl) | exact ((hd _ (by decide)).trans rfl)) ?_
      refine E_convBW (rho_env rfl) Try.underlying5 Try.underlying24 ?_
      refine E_shlW (rho_env rfl) rho_const ⟨by decide, by decide⟩ ?_
      refine E_orW (rho_env rfl) (rho_env rfl) ?_
      refine E_xorW (rho_env rfl) (rho_env rfl) ?_
      refine E_nilCheck (rho_env rfl) ?_
      refine E_fieldAddr (rho_env rfl) fo62_0 ?_
      refine E_indexArr (rho_env rfl) (rho_env rfl) ar25 ⟨by decide, by decide, rfl⟩ ?_
      refine E_nil ?_
      clear hcL
      have hbc := hb.drew.cell
      have hbf := hb.drew.frozen
      simp only [takeC] at hbc
      refine wpList_norm (rfl : setsL _ 0 _ = [_, _, _, _, _, _, _, _, _, _, _, _, _, _, _, _, _, _, _, _, _, _, _, _, _, _, _, _, _, _, _, _, _, _, _, _, _, _, _, _, _, _, _, _, _, _, _, _, _, _, _, _, _, _, _, _, _, _, _, _]) ?_
      go_wp2
      go_roundw
      case rel => exact ⟨2, by omega, rfl, ho.drew.set (.inl rfl) _, (hb.drew.set 1 _)⟩
      case measure => simp [intOf]
    · go_wp2
      refine wp_region_T 43 (by kernel_rfl) (by kernel_rfl) (by kernel_rfl) ?_
      simp only [List.take_succ_cons, List.take_zero, List.drop_succ_cons, List.drop_zero]
      have hcL := hb.drew.cellL
      clear hbc hbf
      refine E_move (rho_base rfl rfl) ?_
      refine E_move (rho_base rfl rfl) ?_
      refine E_nilCheck (rho_env rfl) ?_
      refine E_fieldAddr (rho_env rfl) fo62_0 ?_
      refine E_indexArr (rho_env rfl) (rho_env rfl) ar25 ⟨by decide, by decide, rfl⟩ ?_
      refine E_load (rho_env rfl) on24 (by first | exact ((hcL _).trans rfl) | exact ((hd _ (by decide)).trans rfl)) ?_
      refine E_move (rho_base rfl rfl) ?_
      refine E_move (rho_base rfl rfl) ?_
      refine E_mulI rho_const (rho_env rfl) ⟨rfl, by decide, by decide⟩ ?_
      refine E_indexSl (rho_env rfl) (rho_env rfl) sl29 ⟨by decide, by decide, rfl⟩ ?_
      refine E_load (rho_env rfl) on5 (by first | exact ((hcL _).trans rfl) | exact ((hd _ (by decide)).trans rfl)) ?_
      refine E_convBW (rho_env rfl) Try.underlying5 Try.underlying24 ?_
      refine E_move (rho_base rfl rfl) ?_
      refine E_move (rho_base rfl rfl) ?_
      refine E_mulI rho_const (rho_env rfl) ⟨rfl, by decide, by decide⟩ ?_
      refine E_addI (rho_env rfl) rho_const ⟨rfl, by decide, by decide⟩ ?_
      refine E_indexSl (rho_env rfl) (rho_env rfl) sl29 ⟨by decide, by decide, rfl⟩ ?_
      refine E_load (rho_env rfl) on5 (by first | exact ((hcL _).trans rfl) | exact ((hd _ (by decide)).trans rfl)) ?_
      refine E_convBW (rho_env rfl) Try.underlying5 Try.underlying24 ?_
      refine E_shlW (rho_env rfl) rho_const ⟨by decide, by decide⟩ ?_
      refine E_orW (rho_env rfl) (rho_env rfl) ?_
      refine E_move (rho_base rfl rfl) ?_
      refine E_move (rho_base rfl rfl) ?_
      refine E_mulI rho_const (rho_env rfl) ⟨rfl, by decide, by decide⟩ ?_
      refine E_addI (rho_env rfl) rho_const ⟨rfl, by decide, by decide⟩ ?_
      refine E_indexSl (rho_env rfl) (rho_env rfl) sl29 ⟨by decide, by decide, rfl⟩ ?_
      refine E_load (rho_env rfl) on5 (by first | exact ((hcL _).trans rfl) | exact ((hd _ (by decide)).trans rfl)) ?_
      refine E_convBW (rho_env rfl) Try.underlying5 Try.underlying24 ?_
      refine E_shlW (rho_env rfl) rho_const ⟨by decide, by decide⟩ ?_
      refine E_orW (rho_env rfl) (rho_env rfl) ?_
      refine E_move (rho_base rfl rfl) ?_
      refine E_move (rho_base rfl rfl) ?_
      refine E_mulI rho_const (rho_env rfl) ⟨rfl, by decide, by decide⟩ ?_
      refine E_addI (rho_env rfl) rho_const ⟨rfl, by decide, by decide⟩ ?_
      refine E_indexSl (rho_env rfl) (rho_env rfl) sl29 ⟨by decide, by decide, rfl⟩ ?_
      refine E_load (rho_env rfl) on5 (by first | exact ((hcL _).trans rfl) | exact ((hd _ (by decide)).trans rfl)) ?_
      refine E_convBW (rho_env rfl) Try.underlying5 Try.underlying24 ?_
      refine E_shlW (rho_env rfl) rho_const ⟨by decide, by decide⟩ ?_
      refine E_orW (rho_env rfl) (rho_env rfl) ?_
      refine E_xorW (rho_env rfl) (rho_env rfl) ?_
      refine E_nilCheck (rho_env rfl) ?_
      refine E_fieldAddr (rho_env rfl) fo62_0 ?_
      refine E_indexArr (rho_env rfl) (rho_env rfl) ar25 ⟨by decide, by decide, rfl⟩ ?_
      refine E_nil ?_
      clear hcL
      have hbc := hb.drew.cell
      have hbf := hb.drew.frozen
      simp only [takeC] at hbc
      refine wpList_norm (rfl : setsL _ 0 _ = [_, _, _, _, _, _, _, _, _, _, _, _, _, _, _, _, _, _, _, _, _, _, _, _, _, _, _, _, _, _, _, _, _, _, _, _, _, _, _, _, _, _, _, _, _, _, _, _, _, _, _, _, _, _, _, _, _, _, _, _]) ?_
      go_wp2
      go_roundw
      case rel => exact ⟨3, by omega, rfl, ho.drew.set (.inl rfl) _, (hb.drew.set 2 _)⟩
      case measure => simp [intOf]
    · go_wp2
      refine wp_region_T 43 (by kernel_rfl) (by kernel_rfl) (by kernel_rfl) ?_
      simp only [List.take_succ_cons, List.take_zero, List.drop_succ_cons, List.drop_zero]
      have hcL := hb.drew.cellL
      clear hbc hbf
      refine E_move (rho_base rfl rfl) ?_
      refine E_move (rho_base rfl rfl) ?_
      refine E_nilCheck (rho_env rfl) ?_
      refine E_fieldAddr (rho_env rfl) fo62_0 ?_
      refine E_indexArr (rho_env rfl) (rho_env rfl) ar25 ⟨by decide, by decide, rfl⟩ ?_
      refine E_load (rho_env rfl) on24 (by first | exact ((hcL _).trans rfl) | exact ((hd _ (by decide)).trans rfl)) ?_
      refine E_move (rho_base rfl rfl) ?_
      refine E_move (rho_base rfl rfl) ?_
      refine E_mulI rho_const (rho_env rfl) ⟨rfl, by decide, by decide⟩ ?_
      refine E_indexSl (rho_env rfl) (rho_env rfl) sl29 ⟨by decide, by decide, rfl⟩ ?_
      refine E_load (rho_env rfl) on5 (by first | exact ((hcL _).trans rfl) | exact ((hd _ (by decide)).trans rfl)) ?_
      refine E_convBW (rho_env rfl) Try.underlying5 Try.underlying24 ?_
      refine E_move (rho_base rfl rfl) ?_
      refine E_move (rho_base rfl rfl) ?_
      refine E_mulI rho_const (rho_env rfl) ⟨rfl, by decide, by decide⟩ ?_
      refine E_addI (rho_env rfl) rho_const ⟨rfl, by decide, by decide⟩ ?_
      refine E_indexSl (rho_env rfl) (rho_env rfl) sl29 ⟨by decide, by decide, rfl⟩ ?_
      refine E_load (rho_env rfl) on5 (by first | exact ((hcL _).trans rfl) | exact ((hd _ (by decide)).trans rfl)) ?_
      refine E_convBW (rho_env rfl) Try.underlying5 Try.underlying24 ?_
      refine E_shlW (rho_env rfl) rho_const ⟨by decide, by decide⟩ ?_
      refine E_orW (rho_env rfl) (rho_env rfl) ?_
      refine E_move (rho_base rfl rfl) ?_
      refine E_move (rho_base rfl rfl) ?_
      refine E_mulI rho_const (rho_env rfl) ⟨rfl, by decide, by decide⟩ ?_
      refine E_addI (rho_env rfl) rho_const ⟨rfl, by decide, by decide⟩ ?_
      refine E_indexSl (rho_env rfl) (rho_env rfl) sl29 ⟨by decide, by decide, rfl⟩ ?_
      refine E_load (rho_env rfl) on5 (by first | exact ((hcL _).trans rfl) | exact ((hd _ (by decide)).trans rfl)) ?_
      refine E_convBW (rho_env rfl) Try.underlying5 Try.underlying24 ?_
      refine E_shlW (rho_env rfl) rho_const ⟨by decide, by decide⟩ ?_
      refine E_orW (rho_env rfl) (rho_env rfl) ?_
      refine E_move (rho_base rfl rfl) ?_
      refine E_move (rho_base rfl rfl) ?_
      refine E_mulI rho_const (rho_env rfl) ⟨rfl, by decide, by decide⟩ ?_
      refine E_addI (rho_env rfl) rho_const ⟨rfl, by decide, by decide⟩ ?_
      refine E_indexSl (rho_env rfl) (rho_env rfl) sl29 ⟨by decide, by decide, rfl⟩ ?_
      refine E_load (rho_env rfl) on5 (by first | exact ((hcL _).trans rfl) | exact ((hd _ (by decide)).trans rfl)) ?_
      refine E_convBW (rho_env rfl) Try.underlying5 Try.underlying24 ?_
      refine E_shlW (rho_env rfl) rho_const ⟨by decide, by decide⟩ ?_
      refine E_orW (rho_env rfl) (rho_env rfl) ?_
      refine E_xorW (rho_env rfl) (rho_env rfl) ?_
      refine E_nilCheck (rho_env rfl) ?_
      refine E_fieldAddr (rho_env rfl) fo62_0 ?_
      refine E_indexArr (rho_env rfl) (rho_env rfl) ar25 ⟨by decide, by decide, rfl⟩ ?_
      refine E_nil ?_
      clear hcL
      have hbc := hb.drew.cell
      have hbf := hb.drew.frozen
      simp only [takeC] at hbc
      refine wpList_norm (rfl : setsL _ 0 _ = [_, _, _, _, _, _, _, _, _, _, _, _, _, _, _, _, _, _, _, _, _, _, _, _, _, _, _, _, _, _, _, _, _, _, _, _, _, _, _, _, _, _, _, _, _, _, _, _, _, _, _, _, _, _, _, _, _, _, _, _]) ?_
      go_wp2
      go_roundw
      case rel => exact ⟨4, by omega, rfl, ho.drew.set (.inl rfl) _, (hb.drew.set 3 _)⟩
      case measure => simp [intOf]
    · simp only [takeC] at hbc
      have hbt : ∀ w', Below wr.heap.size wr w' → ∀ i, w'.cell? ⟨p, i, none⟩ = wr.cell? ⟨p, i, none⟩ := fun w' h i => World.cell?_of_block (a := ⟨p, i, none⟩) (h.block p hlt')
      have hft : ∀ w', Below wr.heap.size wr w' → ∀ i, w'.frozen? ⟨p, i, none⟩ = wr.frozen? ⟨p, i, none⟩ := fun w' h i => World.frozen?_of_block (a := ⟨p, i, none⟩) (h.block p hlt')
      go_wp2_with fail
      refine (mix_any ⟨s.a ^^^ le b0 b1 b2 b3, s.b ^^^ le b4 b5 b6 b7, s.c ^^^ le b8 b9 b10 b11, s.d ^^^ le b12 b13 b14 b15, s.e, s.f, s.g, s.h⟩ _).mono ?_
      rintro e w1 ⟨rfl, hw1⟩
      have hbw := hb.ext hw1
      have ht : w1.there p 0 8 := fun j hj => ⟨by rw [hbw.cell]; have : (0 + j) < 9 := by omega
                                                  simp [takeC]; omega, hbw.frozen _⟩
      have HT := Lib.hid ht
      have HB := Lib.hid hbw
      have HO := Lib.hid (ho.trans (Only.ofBelow hw1 (Nat.le_refl _)))
      clear hb ho hw1 hbt hft hbw ht hbc hbf hd
      generalize hmm : mix _ = m
      have HM := Lib.hid hmm
      clear hmm
      go_wp2_with (refine wpList_store_mid rfl 25 (.tmp 59) (.tmp 57) rfl p 0 m.vals rfl rfl HT.out (by kernel_rfl) (vals_one m) ?_)
      go_end0
      refine ⟨rfl, ?_, ?_⟩
      · exact HO.out.setCells _ _ (.inl rfl)
      · have := HB.out.setCells m.vals.toList 0
        rw [absorb, HM.out]
        simpa [takeC, putL, S8.vals, S8.cells] using this
theorem take_any (p : Nat) (s : S8) (wv : Value) (g off cap : Nat) (bl : List UInt8) (w : World) (hp : Blk w p (s.cells wv) 86) (hg : g ≠ p) (hlt : g < w.heap.size) (hbl : bl.length = 16)
    (hc : ∀ (i : Nat) (b : UInt8), bl[i]? = some b → w.cell? ⟨g, off + i, none⟩ = some (B b)) :
    Calls Try.prog 64 #[.pointer (some ⟨p, 0, none⟩), .slice (some ⟨g, off, none⟩) 16 cap] w fun e w' => e = .returned (.tuple #[]) ∧ Only p w w' ∧ Blk w' p ((absorb s bl).cells wv) 86 := by
  match bl, hbl with
  | [b0, b1, b2, b3, b4, b5, b6, b7, b8, b9, b10, b11, b12, b13, b14, b15], _ =>
    refine take_raw p s wv g off cap b0 b1 b2 b3 b4 b5 b6 b7 b8 b9 b10 b11 b12 b13 b14 b15 w hp hg hlt fun i hi => ?_
    have h16 : i = 0 ∨ i = 1 ∨ i = 2 ∨ i = 3 ∨ i = 4 ∨ i = 5 ∨ i = 6 ∨ i = 7 ∨ i = 8 ∨ i = 9 ∨ i = 10 ∨ i = 11 ∨ i = 12 ∨ i = 13 ∨ i = 14 ∨ i = 15 := by omega
    rcases h16 with rfl | rfl | rfl | rfl | rfl | rfl | rfl | rfl | rfl | rfl | rfl | rfl | rfl | rfl | rfl | rfl <;> exact hc _ _ rfl
end Go.Proofs.Ythpjihiikkhcjaa
