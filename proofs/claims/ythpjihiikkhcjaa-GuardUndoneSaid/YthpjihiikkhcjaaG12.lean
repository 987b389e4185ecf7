/-
  A part of the proofs of this seat: laws of the walk, or contracts of the functions that the statements reach. No conditions but those that each theorem names.
-/
import Derived.Test.YthpjihiikkhcjaaG11
namespace Go.Sp
open Go.RowKit
theorem bodyB_take (nm : List UInt8) (i c e r : Int) (M : List UInt8) (n : Nat) (h : n ≤ nm.length + 33) : (bodyB nm i c e r ++ M).take n = (bodyB nm i c e r).take n :=
  List.take_append_of_le_length (by rw [flat_cat]; exact h)
theorem read_first : readM [] (issueB [] [97] 1 2 3 4) = (tokV [97] 1 2 3 4, true) := by
  have hl : (macB [] [tokenS, bodyB [97] 1 2 3 4]).length = 16 := macB_length _ _
  have hi : issueB [] [97] 1 2 3 4 = bodyB [97] 1 2 3 4 ++ macB [] [tokenS, bodyB [97] 1 2 3 4] := rfl
  have hlen : (issueB [] [97] 1 2 3 4).length = 50 := by rw [hi, List.length_append, hl, flat_cat]; rfl
  have h0 : (issueB [] [97] 1 2 3 4)[0]? = some 1 := by
    rw [hi]
    generalize macB [] [tokenS, bodyB [97] 1 2 3 4] = M
    rfl
  have hn : ∀ k, k < 4 → numAt (issueB [] [97] 1 2 3 4) 1 k = numAt (bodyB [97] 1 2 3 4) 1 k := fun k hk => by
    unfold numAt
    rw [hi, bodyB_take _ _ _ _ _ _ _ (by simp; omega)]
  have hm : ((issueB [] [97] 1 2 3 4).take 2).drop 1 = [97] := by
    rw [hi, bodyB_take _ _ _ _ _ _ _ (by simp)]
    decide +kernel
  have n0 : numAt (bodyB [97] 1 2 3 4) 1 0 = 1 := by decide +kernel
  have n1 : numAt (bodyB [97] 1 2 3 4) 1 1 = 2 := by decide +kernel
  have n2 : numAt (bodyB [97] 1 2 3 4) 1 2 = 3 := by decide +kernel
  have n3 : numAt (bodyB [97] 1 2 3 4) 1 3 = 4 := by decide +kernel
  unfold readM
  rw [h0]
  simp only [show (1 : UInt8).toNat = 1 from rfl, hlen, hn 0 (by decide), hn 1 (by decide), hn 2 (by decide), hn 3 (by decide), n0, n1, n2, n3, show 1 + 1 = 2 from rfl, hm]
  simp [show namedM [97] = true by decide]
end Go.Sp
namespace Go.Proofs.Ythpjihiikkhcjaa
open Go.RowKit Go.Sp
set_option maxRecDepth 100000 in
set_option maxHeartbeats 4000000 in
theorem known_any (w : World) : Calls Try.prog 16 #[] w fun e w' => e = .returned (.bool true) ∧ Below w.heap.size w w' := by
  have hz : recV 0 ⟨([] : List UInt8).toArray⟩ 0 0 0 = recV 0 ⟨#[]⟩ 0 0 0 := rfl
  go_enter Try.func16, Try.ntmps16
  go_wp2_with fail
  refine (tokens_any 0 ⟨#[]⟩ 0 0 0 25 _ (by decide) (by decide) (by decide)).mono ?_
  rintro _ w1 ⟨rfl, hb1⟩
  rw [show tokM 0 0 25 = (2, 20) by decide]
  go_wp2_with fail
  refine (issue_any _ [] [97] 1 2 3 4 _ (Byt.nil _) (by decide) (by decide) (by decide) (by decide) (by decide) (by decide)).mono ?_
  rintro _ w2 ⟨iv, rfl, hI, hb2⟩
  have hbw2 := hb1.trans (hb2.mono hb1.size)
  clear hb1 hb2
  obtain ⟨I, hII⟩ : ∃ I, I = issueB [] [97] 1 2 3 4 := ⟨_, rfl⟩
  rw [← hII] at hI
  have HI := Lib.hid hII
  clear hII
  obtain ⟨ia, ic, rfl, _, _⟩ := hI.len
  go_wp2_with fail
  refine (read_any _ _ [] I _ (Byt.nil _) hI (by decide)).mono ?_
  rintro _ w3 ⟨rfl, hb3⟩
  have hbw3 := hbw2.trans (hb3.mono hbw2.size)
  rw [HI.out, read_first]
  clear hb3 hbw2 hI HI
  go_wp2_with (refine (show wpList _ _ _ (⟨none, .store 35 (.tmp 4) (.tmp 18), _, _, _, _⟩ :: _) _ _ from stop_here ?_))
  refine Stop.go (wpList_store_blk rfl rfl rfl rfl (Blk.new w3 _ 35) rfl (size35 _ _ _ _ _) (by simp [tokV, Value.oneCell']) ?_)
  intro w4 hT4 hO4
  have hb4 : Below w3.heap.size w3 w4 := ((Below.refl _ _).alloc (Nat.le_refl _) _).trans (hO4.below (Nat.le_refl _) (by simp))
  have hbw4 := hbw3.trans (hb4.mono hbw3.size)
  clear hO4 hb4 hbw3
  go_wp2_with fail
  refine (charge_any 0 ⟨#[]⟩ 5 0 0 0 _ (by decide) (by decide) (by decide)).mono ?_
  rintro _ w5 ⟨rfl, hb5⟩
  rw [show (chM 0 ⟨#[]⟩ 5 0 0 0).1 = recV 0 ⟨#[]⟩ 4 0 0 from rfl, show (chM 0 ⟨#[]⟩ 5 0 0 0).2 = true from rfl]
  have hT5 := hT4.ext hb5
  have hbw5 := hbw4.trans (hb5.mono hbw4.size)
  have hl3 := hT5.lt
  clear hb5 hT4 hbw4
  go_wp2_with (refine (show wpList _ _ _ (⟨none, .store 28 (.tmp 6) (.tmp 23), _, _, _, _⟩ :: _) _ _ from stop_here ?_))
  refine Stop.go (wpList_store_blk rfl rfl rfl rfl (Blk.new w5 _ 28) rfl (size28 _ _ _ _ _) (by simp [recV, Value.oneCell']) ?_)
  intro w6 hC6 hO6
  have hb6 : Below w5.heap.size w5 w6 := ((Below.refl _ _).alloc (Nat.le_refl _) _).trans (hO6.below (Nat.le_refl _) (by simp))
  have hT6 := hT5.ext hb6
  have hbw6 := hbw5.trans (hb6.mono hbw5.size)
  clear hO6 hb6 hT5 hbw5
  have hc4 : w6.cell? ⟨w3.heap.size, 4, none⟩ = some (.int .i64 4) := by rw [hT6.cell]; rfl
  go_wp2_with (refine (show wpList _ _ _ (⟨some 40, .load 35 (.tmp 4), _, _, _, _⟩ :: _) _ _ from stop_here ?_))
  refine Stop.go (wpList_valw rfl (r_loadBlk rfl hT6 Try.underlying35 rfl (size35 _ _ _ _ _)) ?_)
  go_wp2_with fail
  refine (live_any [97] 1 2 3 4 0 [97] 0 0 0 2 2 4 _).mono ?_
  rintro _ w7 ⟨rfl, hb7⟩
  rw [show liveM [97] 1 2 3 4 [97] 0 2 2 4 = true by decide]
  have hT7 := hT6.ext hb7
  have hC7 := hC6.ext hb7
  have hbw7 := hbw6.trans (hb7.mono hbw6.size)
  clear hb7 hT6 hC6 hbw6 hc4
  go_wp2_with (refine (show wpList _ _ _ (⟨some 45, .load 35 (.tmp 4), _, _, _, _⟩ :: _) _ _ from stop_here ?_))
  refine Stop.go (wpList_valw rfl (r_loadBlk rfl hT7 Try.underlying35 rfl (size35 _ _ _ _ _)) ?_)
  go_wp2_with fail
  refine (live_any [97] 1 2 3 4 0 [97] 0 0 0 2 3 4 _).mono ?_
  rintro _ w8 ⟨rfl, hb8⟩
  rw [show liveM [97] 1 2 3 4 [97] 0 2 3 4 = false by decide]
  have hC8 := hC7.ext hb8
  have hbw8 := hbw7.trans (hb8.mono hbw7.size)
  clear hb8 hT7 hC7 hbw7
  have hc6 : w8.cell? ⟨w5.heap.size, 20, none⟩ = some (.int .i64 4) := by rw [hC8.cell]; rfl
  go_wp2
  go_ret
  exact ⟨rfl, hbw8⟩
theorem pf16 : plainFn Try.prog 16 = true := by kernel_rfl
end Go.Proofs.Ythpjihiikkhcjaa
