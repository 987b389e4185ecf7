/-
  A part of the proofs of this seat: laws of the walk, or contracts of the functions that the statements reach. No conditions but those that each theorem names.
-/
import Derived.Test.YthpjihiikkhcjaaGj
namespace Go.Proofs.Ythpjihiikkhcjaa
open Go.RowKit Go.Sp
set_option maxRecDepth 100000 in
set_option maxHeartbeats 8000000 in
theorem numbers_any (kv : Value) (key : List UInt8) (n : Int) (s : ByteArray) (wh v : Int) (name : ByteArray) (w : World) (hk : Byt w kv key) (hn : -9223372036854775808 ≤ n ∧ n ≤ 9223372036854775807) (_hs : s.size ≤ maxLen) (hwh : -9223372036854775808 ≤ wh ∧ wh ≤ 9223372036854775807) (hv : -9223372036854775808 ≤ v ∧ v ≤ 9223372036854775807) (_ht : name.size ≤ maxLen) :
    Calls Try.prog 11 #[kv, .int .i64 n, .string s, .int .i64 wh, .int .i64 v, .string name] w fun e w' => e = .returned (.bool true) ∧ Below w.heap.size w w' := by
  obtain ⟨ls, rfl⟩ : ∃ l : List UInt8, s = ⟨l.toArray⟩ := ⟨s.data.toList, rfl⟩
  obtain ⟨nn, rfl⟩ : ∃ l : List UInt8, name = ⟨l.toArray⟩ := ⟨name.data.toList, rfl⟩
  have hsz : (⟨ls.toArray⟩ : ByteArray).size = ls.length := rfl
  have htz : (⟨nn.toArray⟩ : ByteArray).size = nn.length := rfl
  have HK := Lib.hid hk
  obtain ⟨ka, kc, rfl, hkc, hkm⟩ := hk.len
  unfold maxLen at hkm
  clear hk
  by_cases hk6 : (60 : Int) < (key.length : Int)
  · go_enter Try.func11, Try.ntmps11
    go_wp2_with fail
    refine (known_any _).mono ?_
    rintro _ w1 ⟨rfl, hbw1⟩
    go_wp2
    go_ret
    exact ⟨rfl, hbw1⟩
  by_cases hs4 : (40 : Int) < (ls.length : Int)
  · go_enter Try.func11, Try.ntmps11
    go_wp2_with fail
    refine (known_any _).mono ?_
    rintro _ w1 ⟨rfl, hbw1⟩
    go_wp2
    go_ret
    exact ⟨rfl, hbw1⟩
  by_cases ht4 : (100 : Int) < (nn.length : Int)
  · go_enter Try.func11, Try.ntmps11
    go_wp2_with fail
    refine (known_any _).mono ?_
    rintro _ w1 ⟨rfl, hbw1⟩
    go_wp2
    go_ret
    exact ⟨rfl, hbw1⟩
  go_enter Try.func11, Try.ntmps11
  try simp only [List.append_eq, List.cons_append, List.nil_append]
  go_wp2_with fail
  refine (known_any _).mono ?_
  rintro _ w1 ⟨rfl, hbw⟩
  go_wp2_with fail
  refine (token_any n ls _ hn (by omega)).mono ?_
  rintro _ w2 ⟨rfl, hb2⟩
  replace hbw := hbw.trans (hb2.mono hbw.size)
  clear hb2 hsz htz
  obtain ⟨⟨ti0, ti1⟩, ⟨tc0, tc1⟩, ⟨te0, te1⟩, ⟨tr0, tr1⟩⟩ := tk_range n
  have hnl := nameB_len ls
  have HNM := Lib.hid (nameB_ok ls)
  generalize tkI n = I at *
  generalize tkC n = C at *
  generalize tkE n = E at *
  generalize tkR n = R at *
  generalize nameB ls = nm at *
  go_wp2_with (with_reducible refine stop_st 13 36 ?_)
  refine Stop.go (wpList_store_blk rfl rfl rfl rfl (Blk.new w2 _ 35) rfl (size35 _ _ _ _ _) (by simp [tokV, Value.oneCell']) ?_)
  intro w3 hT hO3
  have hb3 : Below w2.heap.size w2 w3 := ((Below.refl _ _).alloc (Nat.le_refl _) _).trans (hO3.below (Nat.le_refl _) (by simp))
  have hgt := hbw.size
  replace hbw := hbw.trans (hb3.mono hbw.size)
  clear hO3 hb3
  generalize w2.heap.size = gt at *
  go_wp2_with fail
  refine (within_any wh 5 hwh (by decide) (by decide) _).mono ?_
  rintro _ wx ⟨rfl, rfl⟩
  have hq : 0 ≤ wh % 5 ∧ wh % 5 < 5 := by omega
  generalize wh % 5 = q at *
  by_cases hqk : q = 0
  · subst hqk
    have c1 : w3.cell? ⟨gt, 1, none⟩ = some (.int .i64 I) := by rw [hT.cell]; rfl
    have f1 : w3.frozen? ⟨gt, 1, none⟩ = false := hT.frozen 1
    have hT4 : Blk (w3.setCell ⟨gt, 1, none⟩ (.int .i64 v)) gt (tokV nm v C E R) 35 := hT.set 1 _
    have hbw4 := hbw.setCell (p := ⟨gt, 1, none⟩) hgt (.int .i64 v)
    clear hT hbw
    go_wp2_with (with_reducible refine stop_at 60 ?_)
    clear c1 f1
    generalize w3.setCell ⟨gt, 1, none⟩ (.int .i64 v) = w4 at *
    refine Stop.go (wpList_val rfl (r_loadBlk rfl hT4 Try.underlying35 rfl (size35 _ _ _ _ _)) ?_)
    go_wp2_with fail
    refine (rissue_any _ key nm v C E R _ (HK.out.ext hbw4) (by omega) (by omega)).mono ?_
    rintro _ w5 ⟨iv, rfl, hI, hb5⟩
    replace hbw4 := hbw4.trans (hb5.mono hbw4.size)
    replace hT4 := hT4.ext hb5
    clear hb5
    have hrd := read_issue key nm v C E R (by omega) (by omega) (by omega) (by omega) (by omega)
    generalize issueB key nm v C E R = B at *
    have HRD := Lib.hid hrd
    clear hrd
    obtain ⟨ia, ic, rfl, hic, him⟩ := hI.len
    unfold maxLen at him
    by_cases hneg : 0 ≤ v
    · have HR : Hid (readM key B = (tokV nm v C E R, true)) := Lib.hid (by
        rw [HRD.out]
        rw [if_neg (by omega), HNM.out, if_neg (by decide)])
      clear HRD
      go_wp2_with fail
      refine (read_any _ _ key B _ (HK.out.ext hbw4) hI (by omega)).mono ?_
      rintro _ w6 ⟨rfl, hb6⟩
      rw [HR.out]
      replace hbw4 := hbw4.trans (hb6.mono hbw4.size)
      replace hT4 := hT4.ext hb6
      replace hI := hI.ext hb6
      clear hb6
      go_wp2_with (with_reducible refine stop_st 15 66 ?_)
      refine Stop.go (wpList_store_blk rfl rfl rfl rfl (Blk.new w6 _ 35) rfl (size35 _ _ _ _ _) (by simp [tokV, zeroTok, Value.oneCell']) ?_)
      intro w7 hX hO7
      have hb7 : Below w6.heap.size w6 w7 := ((Below.refl _ _).alloc (Nat.le_refl _) _).trans (hO7.below (Nat.le_refl _) (by simp))
      replace hbw4 := hbw4.trans (hb7.mono hbw4.size)
      replace hT4 := hT4.ext hb7
      replace hI := hI.ext hb7
      clear hO7 hb7
      go_wp2_with fail
      refine (rread_any _ _ key B _ (HK.out.ext hbw4) hI (by omega)).mono ?_
      rintro _ w8 ⟨rfl, hb8⟩
      rw [HR.out]
      replace hbw4 := hbw4.trans (hb8.mono hbw4.size)
      replace hT4 := hT4.ext hb8
      replace hX := hX.ext hb8
      clear hb8 hI
      go_wp2_with (with_reducible refine stop_st 17 72 ?_)
      refine Stop.go (wpList_store_blk rfl rfl rfl rfl (Blk.new w8 _ 35) rfl (size35 _ _ _ _ _) (by simp [tokV, zeroTok, Value.oneCell']) ?_)
      intro w9 hY hO9
      have hb9 : Below w8.heap.size w8 w9 := ((Below.refl _ _).alloc (Nat.le_refl _) _).trans (hO9.below (Nat.le_refl _) (by simp))
      replace hbw4 := hbw4.trans (hb9.mono hbw4.size)
      replace hT4 := hT4.ext hb9
      replace hX := hX.ext hb9
      clear hO9 hb9
      have k0 : w9.cell? ⟨gt, 0, none⟩ = some (.string ⟨nm.toArray⟩) := by rw [hT4.cell]; rfl
      have k1 : w9.cell? ⟨gt, 1, none⟩ = some (.int .i64 v) := by rw [hT4.cell]; rfl
      have k2 : w9.cell? ⟨gt, 2, none⟩ = some (.int .i64 C) := by rw [hT4.cell]; rfl
      have k3 : w9.cell? ⟨gt, 3, none⟩ = some (.int .i64 E) := by rw [hT4.cell]; rfl
      have k4 : w9.cell? ⟨gt, 4, none⟩ = some (.int .i64 R) := by rw [hT4.cell]; rfl
      go_wp2_with (with_reducible refine stop_at 78 ?_)
      refine Stop.go (wpList_valw (by kernel_rfl) (r_loadBlk rfl hX Try.underlying35 rfl (size35 _ _ _ _ _)) ?_)
      go_wp2_with (with_reducible refine stop_at 79 ?_)
      refine Stop.go (wpList_valw (by kernel_rfl) (r_loadBlk rfl hY Try.underlying35 rfl (size35 _ _ _ _ _)) ?_)
      go_wp2_with (with_reducible refine stop_at 80 ?_)
      refine Stop.go (wpList_valw (by kernel_rfl) (r_eqTok (nm := nm) (i := v) (c := C) (e := E) (r := R) (nm' := nm) (i' := v) (c' := C) (e' := E) (r' := R) rfl rfl) ?_)
      rw [tokEq_self]
      go_wp2_with fail
      refine (wname_any nm _ (by omega)).mono ?_
      rintro _ wx ⟨rfl, rfl⟩
      rw [HNM.out]
      go_wp2
      go_ret
      first | exact ⟨rfl, hbw4⟩ | exact ⟨congrArg (fun b => Ending.returned (Value.bool b)) (by simp [hneg]), hbw4⟩
    · have HR : Hid (readM key B = (zeroTok, false)) := Lib.hid (by
        rw [HRD.out]
        rw [if_pos (by omega)])
      clear HRD
      go_wp2_with fail
      refine (read_any _ _ key B _ (HK.out.ext hbw4) hI (by omega)).mono ?_
      rintro _ w6 ⟨rfl, hb6⟩
      rw [HR.out]
      replace hbw4 := hbw4.trans (hb6.mono hbw4.size)
      replace hT4 := hT4.ext hb6
      replace hI := hI.ext hb6
      clear hb6
      go_wp2_with (with_reducible refine stop_st 15 66 ?_)
      refine Stop.go (wpList_store_blk rfl rfl rfl rfl (Blk.new w6 _ 35) rfl (size35 _ _ _ _ _) (by simp [tokV, zeroTok, Value.oneCell']) ?_)
      intro w7 hX hO7
      have hb7 : Below w6.heap.size w6 w7 := ((Below.refl _ _).alloc (Nat.le_refl _) _).trans (hO7.below (Nat.le_refl _) (by simp))
      replace hbw4 := hbw4.trans (hb7.mono hbw4.size)
      replace hT4 := hT4.ext hb7
      replace hI := hI.ext hb7
      clear hO7 hb7
      go_wp2_with fail
      refine (rread_any _ _ key B _ (HK.out.ext hbw4) hI (by omega)).mono ?_
      rintro _ w8 ⟨rfl, hb8⟩
      rw [HR.out]
      replace hbw4 := hbw4.trans (hb8.mono hbw4.size)
      replace hT4 := hT4.ext hb8
      replace hX := hX.ext hb8
      clear hb8 hI
      go_wp2_with (with_reducible refine stop_st 17 72 ?_)
      refine Stop.go (wpList_store_blk rfl rfl rfl rfl (Blk.new w8 _ 35) rfl (size35 _ _ _ _ _) (by simp [tokV, zeroTok, Value.oneCell']) ?_)
      intro w9 hY hO9
      have hb9 : Below w8.heap.size w8 w9 := ((Below.refl _ _).alloc (Nat.le_refl _) _).trans (hO9.below (Nat.le_refl _) (by simp))
      replace hbw4 := hbw4.trans (hb9.mono hbw4.size)
      replace hT4 := hT4.ext hb9
      replace hX := hX.ext hb9
      clear hO9 hb9
      have k0 : w9.cell? ⟨gt, 0, none⟩ = some (.string ⟨nm.toArray⟩) := by rw [hT4.cell]; rfl
      have k1 : w9.cell? ⟨gt, 1, none⟩ = some (.int .i64 v) := by rw [hT4.cell]; rfl
      have k2 : w9.cell? ⟨gt, 2, none⟩ = some (.int .i64 C) := by rw [hT4.cell]; rfl
      have k3 : w9.cell? ⟨gt, 3, none⟩ = some (.int .i64 E) := by rw [hT4.cell]; rfl
      have k4 : w9.cell? ⟨gt, 4, none⟩ = some (.int .i64 R) := by rw [hT4.cell]; rfl
      go_wp2_with (with_reducible refine stop_at 78 ?_)
      refine Stop.go (wpList_valw (by kernel_rfl) (r_loadBlk rfl hX Try.underlying35 rfl (size35 _ _ _ _ _)) ?_)
      go_wp2_with (with_reducible refine stop_at 79 ?_)
      refine Stop.go (wpList_valw (by kernel_rfl) (r_loadBlk rfl hY Try.underlying35 rfl (size35 _ _ _ _ _)) ?_)
      go_wp2_with (with_reducible refine stop_at 80 ?_)
      refine Stop.go (wpList_valw (by kernel_rfl) (r_eqTok (nm := []) (i := 0) (c := 0) (e := 0) (r := 0) (nm' := []) (i' := 0) (c' := 0) (e' := 0) (r' := 0) rfl rfl) ?_)
      rw [tokEq_self]
      go_wp2_with fail
      refine (wname_any nm _ (by omega)).mono ?_
      rintro _ wx ⟨rfl, rfl⟩
      rw [HNM.out]
      go_wp2
      go_ret
      first | exact ⟨rfl, hbw4⟩ | exact ⟨congrArg (fun b => Ending.returned (Value.bool b)) (by simp [hneg]), hbw4⟩
  by_cases hqk : q = 1
  · subst hqk
    have c1 : w3.cell? ⟨gt, 2, none⟩ = some (.int .i64 C) := by rw [hT.cell]; rfl
    have f1 : w3.frozen? ⟨gt, 2, none⟩ = false := hT.frozen 2
    have hT4 : Blk (w3.setCell ⟨gt, 2, none⟩ (.int .i64 v)) gt (tokV nm I v E R) 35 := hT.set 2 _
    have hbw4 := hbw.setCell (p := ⟨gt, 2, none⟩) hgt (.int .i64 v)
    clear hT hbw
    go_wp2_with (with_reducible refine stop_at 60 ?_)
    clear c1 f1
    generalize w3.setCell ⟨gt, 2, none⟩ (.int .i64 v) = w4 at *
    refine Stop.go (wpList_val rfl (r_loadBlk rfl hT4 Try.underlying35 rfl (size35 _ _ _ _ _)) ?_)
    go_wp2_with fail
    refine (rissue_any _ key nm I v E R _ (HK.out.ext hbw4) (by omega) (by omega)).mono ?_
    rintro _ w5 ⟨iv, rfl, hI, hb5⟩
    replace hbw4 := hbw4.trans (hb5.mono hbw4.size)
    replace hT4 := hT4.ext hb5
    clear hb5
    have hrd := read_issue key nm I v E R (by omega) (by omega) (by omega) (by omega) (by omega)
    generalize issueB key nm I v E R = B at *
    have HRD := Lib.hid hrd
    clear hrd
    obtain ⟨ia, ic, rfl, hic, him⟩ := hI.len
    unfold maxLen at him
    by_cases hneg : 0 ≤ v
    · have HR : Hid (readM key B = (tokV nm I v E R, true)) := Lib.hid (by
        rw [HRD.out]
        rw [if_neg (by omega), HNM.out, if_neg (by decide)])
      clear HRD
      go_wp2_with fail
      refine (read_any _ _ key B _ (HK.out.ext hbw4) hI (by omega)).mono ?_
      rintro _ w6 ⟨rfl, hb6⟩
      rw [HR.out]
      replace hbw4 := hbw4.trans (hb6.mono hbw4.size)
      replace hT4 := hT4.ext hb6
      replace hI := hI.ext hb6
      clear hb6
      go_wp2_with (with_reducible refine stop_st 15 66 ?_)
      refine Stop.go (wpList_store_blk rfl rfl rfl rfl (Blk.new w6 _ 35) rfl (size35 _ _ _ _ _) (by simp [tokV, zeroTok, Value.oneCell']) ?_)
      intro w7 hX hO7
      have hb7 : Below w6.heap.size w6 w7 := ((Below.refl _ _).alloc (Nat.le_refl _) _).trans (hO7.below (Nat.le_refl _) (by simp))
      replace hbw4 := hbw4.trans (hb7.mono hbw4.size)
      replace hT4 := hT4.ext hb7
      replace hI := hI.ext hb7
      clear hO7 hb7
      go_wp2_with fail
      refine (rread_any _ _ key B _ (HK.out.ext hbw4) hI (by omega)).mono ?_
      rintro _ w8 ⟨rfl, hb8⟩
      rw [HR.out]
      replace hbw4 := hbw4.trans (hb8.mono hbw4.size)
      replace hT4 := hT4.ext hb8
      replace hX := hX.ext hb8
      clear hb8 hI
      go_wp2_with (with_reducible refine stop_st 17 72 ?_)
      refine Stop.go (wpList_store_blk rfl rfl rfl rfl (Blk.new w8 _ 35) rfl (size35 _ _ _ _ _) (by simp [tokV, zeroTok, Value.oneCell']) ?_)
      intro w9 hY hO9
      have hb9 : Below w8.heap.size w8 w9 := ((Below.refl _ _).alloc (Nat.le_refl _) _).trans (hO9.below (Nat.le_refl _) (by simp))
      replace hbw4 := hbw4.trans (hb9.mono hbw4.size)
      replace hT4 := hT4.ext hb9
      replace hX := hX.ext hb9
      clear hO9 hb9
      have k0 : w9.cell? ⟨gt, 0, none⟩ = some (.string ⟨nm.toArray⟩) := by rw [hT4.cell]; rfl
      have k1 : w9.cell? ⟨gt, 1, none⟩ = some (.int .i64 I) := by rw [hT4.cell]; rfl
      have k2 : w9.cell? ⟨gt, 2, none⟩ = some (.int .i64 v) := by rw [hT4.cell]; rfl
      have k3 : w9.cell? ⟨gt, 3, none⟩ = some (.int .i64 E) := by rw [hT4.cell]; rfl
      have k4 : w9.cell? ⟨gt, 4, none⟩ = some (.int .i64 R) := by rw [hT4.cell]; rfl
      go_wp2_with (with_reducible refine stop_at 78 ?_)
      refine Stop.go (wpList_valw (by kernel_rfl) (r_loadBlk rfl hX Try.underlying35 rfl (size35 _ _ _ _ _)) ?_)
      go_wp2_with (with_reducible refine stop_at 79 ?_)
      refine Stop.go (wpList_valw (by kernel_rfl) (r_loadBlk rfl hY Try.underlying35 rfl (size35 _ _ _ _ _)) ?_)
      go_wp2_with (with_reducible refine stop_at 80 ?_)
      refine Stop.go (wpList_valw (by kernel_rfl) (r_eqTok (nm := nm) (i := I) (c := v) (e := E) (r := R) (nm' := nm) (i' := I) (c' := v) (e' := E) (r' := R) rfl rfl) ?_)
      rw [tokEq_self]
      go_wp2_with fail
      refine (wname_any nm _ (by omega)).mono ?_
      rintro _ wx ⟨rfl, rfl⟩
      rw [HNM.out]
      go_wp2
      go_ret
      first | exact ⟨rfl, hbw4⟩ | exact ⟨congrArg (fun b => Ending.returned (Value.bool b)) (by simp [hneg]), hbw4⟩
    · have HR : Hid (readM key B = (zeroTok, false)) := Lib.hid (by
        rw [HRD.out]
        rw [if_pos (by omega)])
      clear HRD
      go_wp2_with fail
      refine (read_any _ _ key B _ (HK.out.ext hbw4) hI (by omega)).mono ?_
      rintro _ w6 ⟨rfl, hb6⟩
      rw [HR.out]
      replace hbw4 := hbw4.trans (hb6.mono hbw4.size)
      replace hT4 := hT4.ext hb6
      replace hI := hI.ext hb6
      clear hb6
      go_wp2_with (with_reducible refine stop_st 15 66 ?_)
      refine Stop.go (wpList_store_blk rfl rfl rfl rfl (Blk.new w6 _ 35) rfl (size35 _ _ _ _ _) (by simp [tokV, zeroTok, Value.oneCell']) ?_)
      intro w7 hX hO7
      have hb7 : Below w6.heap.size w6 w7 := ((Below.refl _ _).alloc (Nat.le_refl _) _).trans (hO7.below (Nat.le_refl _) (by simp))
      replace hbw4 := hbw4.trans (hb7.mono hbw4.size)
      replace hT4 := hT4.ext hb7
      replace hI := hI.ext hb7
      clear hO7 hb7
      go_wp2_with fail
      refine (rread_any _ _ key B _ (HK.out.ext hbw4) hI (by omega)).mono ?_
      rintro _ w8 ⟨rfl, hb8⟩
      rw [HR.out]
      replace hbw4 := hbw4.trans (hb8.mono hbw4.size)
      replace hT4 := hT4.ext hb8
      replace hX := hX.ext hb8
      clear hb8 hI
      go_wp2_with (with_reducible refine stop_st 17 72 ?_)
      refine Stop.go (wpList_store_blk rfl rfl rfl rfl (Blk.new w8 _ 35) rfl (size35 _ _ _ _ _) (by simp [tokV, zeroTok, Value.oneCell']) ?_)
      intro w9 hY hO9
      have hb9 : Below w8.heap.size w8 w9 := ((Below.refl _ _).alloc (Nat.le_refl _) _).trans (hO9.below (Nat.le_refl _) (by simp))
      replace hbw4 := hbw4.trans (hb9.mono hbw4.size)
      replace hT4 := hT4.ext hb9
      replace hX := hX.ext hb9
      clear hO9 hb9
      have k0 : w9.cell? ⟨gt, 0, none⟩ = some (.string ⟨nm.toArray⟩) := by rw [hT4.cell]; rfl
      have k1 : w9.cell? ⟨gt, 1, none⟩ = some (.int .i64 I) := by rw [hT4.cell]; rfl
      have k2 : w9.cell? ⟨gt, 2, none⟩ = some (.int .i64 v) := by rw [hT4.cell]; rfl
      have k3 : w9.cell? ⟨gt, 3, none⟩ = some (.int .i64 E) := by rw [hT4.cell]; rfl
      have k4 : w9.cell? ⟨gt, 4, none⟩ = some (.int .i64 R) := by rw [hT4.cell]; rfl
      go_wp2_with (with_reducible refine stop_at 78 ?_)
      refine Stop.go (wpList_valw (by kernel_rfl) (r_loadBlk rfl hX Try.underlying35 rfl (size35 _ _ _ _ _)) ?_)
      go_wp2_with (with_reducible refine stop_at 79 ?_)
      refine Stop.go (wpList_valw (by kernel_rfl) (r_loadBlk rfl hY Try.underlying35 rfl (size35 _ _ _ _ _)) ?_)
      go_wp2_with (with_reducible refine stop_at 80 ?_)
      refine Stop.go (wpList_valw (by kernel_rfl) (r_eqTok (nm := []) (i := 0) (c := 0) (e := 0) (r := 0) (nm' := []) (i' := 0) (c' := 0) (e' := 0) (r' := 0) rfl rfl) ?_)
      rw [tokEq_self]
      go_wp2_with fail
      refine (wname_any nm _ (by omega)).mono ?_
      rintro _ wx ⟨rfl, rfl⟩
      rw [HNM.out]
      go_wp2
      go_ret
      first | exact ⟨rfl, hbw4⟩ | exact ⟨congrArg (fun b => Ending.returned (Value.bool b)) (by simp [hneg]), hbw4⟩
  by_cases hqk : q = 2
  · subst hqk
    have c1 : w3.cell? ⟨gt, 3, none⟩ = some (.int .i64 E) := by rw [hT.cell]; rfl
    have f1 : w3.frozen? ⟨gt, 3, none⟩ = false := hT.frozen 3
    have hT4 : Blk (w3.setCell ⟨gt, 3, none⟩ (.int .i64 v)) gt (tokV nm I C v R) 35 := hT.set 3 _
    have hbw4 := hbw.setCell (p := ⟨gt, 3, none⟩) hgt (.int .i64 v)
    clear hT hbw
    go_wp2_with (with_reducible refine stop_at 60 ?_)
    clear c1 f1
    generalize w3.setCell ⟨gt, 3, none⟩ (.int .i64 v) = w4 at *
    refine Stop.go (wpList_val rfl (r_loadBlk rfl hT4 Try.underlying35 rfl (size35 _ _ _ _ _)) ?_)
    go_wp2_with fail
    refine (rissue_any _ key nm I C v R _ (HK.out.ext hbw4) (by omega) (by omega)).mono ?_
    rintro _ w5 ⟨iv, rfl, hI, hb5⟩
    replace hbw4 := hbw4.trans (hb5.mono hbw4.size)
    replace hT4 := hT4.ext hb5
    clear hb5
    have hrd := read_issue key nm I C v R (by omega) (by omega) (by omega) (by omega) (by omega)
    generalize issueB key nm I C v R = B at *
    have HRD := Lib.hid hrd
    clear hrd
    obtain ⟨ia, ic, rfl, hic, him⟩ := hI.len
    unfold maxLen at him
    by_cases hneg : 0 ≤ v
    · have HR : Hid (readM key B = (tokV nm I C v R, true)) := Lib.hid (by
        rw [HRD.out]
        rw [if_neg (by omega), HNM.out, if_neg (by decide)])
      clear HRD
      go_wp2_with fail
      refine (read_any _ _ key B _ (HK.out.ext hbw4) hI (by omega)).mono ?_
      rintro _ w6 ⟨rfl, hb6⟩
      rw [HR.out]
      replace hbw4 := hbw4.trans (hb6.mono hbw4.size)
      replace hT4 := hT4.ext hb6
      replace hI := hI.ext hb6
      clear hb6
      go_wp2_with (with_reducible refine stop_st 15 66 ?_)
      refine Stop.go (wpList_store_blk rfl rfl rfl rfl (Blk.new w6 _ 35) rfl (size35 _ _ _ _ _) (by simp [tokV, zeroTok, Value.oneCell']) ?_)
      intro w7 hX hO7
      have hb7 : Below w6.heap.size w6 w7 := ((Below.refl _ _).alloc (Nat.le_refl _) _).trans (hO7.below (Nat.le_refl _) (by simp))
      replace hbw4 := hbw4.trans (hb7.mono hbw4.size)
      replace hT4 := hT4.ext hb7
      replace hI := hI.ext hb7
      clear hO7 hb7
      go_wp2_with fail
      refine (rread_any _ _ key B _ (HK.out.ext hbw4) hI (by omega)).mono ?_
      rintro _ w8 ⟨rfl, hb8⟩
      rw [HR.out]
      replace hbw4 := hbw4.trans (hb8.mono hbw4.size)
      replace hT4 := hT4.ext hb8
      replace hX := hX.ext hb8
      clear hb8 hI
      go_wp2_with (with_reducible refine stop_st 17 72 ?_)
      refine Stop.go (wpList_store_blk rfl rfl rfl rfl (Blk.new w8 _ 35) rfl (size35 _ _ _ _ _) (by simp [tokV, zeroTok, Value.oneCell']) ?_)
      intro w9 hY hO9
      have hb9 : Below w8.heap.size w8 w9 := ((Below.refl _ _).alloc (Nat.le_refl _) _).trans (hO9.below (Nat.le_refl _) (by simp))
      replace hbw4 := hbw4.trans (hb9.mono hbw4.size)
      replace hT4 := hT4.ext hb9
      replace hX := hX.ext hb9
      clear hO9 hb9
      have k0 : w9.cell? ⟨gt, 0, none⟩ = some (.string ⟨nm.toArray⟩) := by rw [hT4.cell]; rfl
      have k1 : w9.cell? ⟨gt, 1, none⟩ = some (.int .i64 I) := by rw [hT4.cell]; rfl
      have k2 : w9.cell? ⟨gt, 2, none⟩ = some (.int .i64 C) := by rw [hT4.cell]; rfl
      have k3 : w9.cell? ⟨gt, 3, none⟩ = some (.int .i64 v) := by rw [hT4.cell]; rfl
      have k4 : w9.cell? ⟨gt, 4, none⟩ = some (.int .i64 R) := by rw [hT4.cell]; rfl
      go_wp2_with (with_reducible refine stop_at 78 ?_)
      refine Stop.go (wpList_valw (by kernel_rfl) (r_loadBlk rfl hX Try.underlying35 rfl (size35 _ _ _ _ _)) ?_)
      go_wp2_with (with_reducible refine stop_at 79 ?_)
      refine Stop.go (wpList_valw (by kernel_rfl) (r_loadBlk rfl hY Try.underlying35 rfl (size35 _ _ _ _ _)) ?_)
      go_wp2_with (with_reducible refine stop_at 80 ?_)
      refine Stop.go (wpList_valw (by kernel_rfl) (r_eqTok (nm := nm) (i := I) (c := C) (e := v) (r := R) (nm' := nm) (i' := I) (c' := C) (e' := v) (r' := R) rfl rfl) ?_)
      rw [tokEq_self]
      go_wp2_with fail
      refine (wname_any nm _ (by omega)).mono ?_
      rintro _ wx ⟨rfl, rfl⟩
      rw [HNM.out]
      go_wp2
      go_ret
      first | exact ⟨rfl, hbw4⟩ | exact ⟨congrArg (fun b => Ending.returned (Value.bool b)) (by simp [hneg]), hbw4⟩
    · have HR : Hid (readM key B = (zeroTok, false)) := Lib.hid (by
        rw [HRD.out]
        rw [if_pos (by omega)])
      clear HRD
      go_wp2_with fail
      refine (read_any _ _ key B _ (HK.out.ext hbw4) hI (by omega)).mono ?_
      rintro _ w6 ⟨rfl, hb6⟩
      rw [HR.out]
      replace hbw4 := hbw4.trans (hb6.mono hbw4.size)
      replace hT4 := hT4.ext hb6
      replace hI := hI.ext hb6
      clear hb6
      go_wp2_with (with_reducible refine stop_st 15 66 ?_)
      refine Stop.go (wpList_store_blk rfl rfl rfl rfl (Blk.new w6 _ 35) rfl (size35 _ _ _ _ _) (by simp [tokV, zeroTok, Value.oneCell']) ?_)
      intro w7 hX hO7
      have hb7 : Below w6.heap.size w6 w7 := ((Below.refl _ _).alloc (Nat.le_refl _) _).trans (hO7.below (Nat.le_refl _) (by simp))
      replace hbw4 := hbw4.trans (hb7.mono hbw4.size)
      replace hT4 := hT4.ext hb7
      replace hI := hI.ext hb7
      clear hO7 hb7
      go_wp2_with fail
      refine (rread_any _ _ key B _ (HK.out.ext hbw4) hI (by omega)).mono ?_
      rintro _ w8 ⟨rfl, hb8⟩
      rw [HR.out]
      replace hbw4 := hbw4.trans (hb8.mono hbw4.size)
      replace hT4 := hT4.ext hb8
      replace hX := hX.ext hb8
      clear hb8 hI
      go_wp2_with (with_reducible refine stop_st 17 72 ?_)
      refine Stop.go (wpList_store_blk rfl rfl rfl rfl (Blk.new w8 _ 35) rfl (size35 _ _ _ _ _) (by simp [tokV, zeroTok, Value.oneCell']) ?_)
      intro w9 hY hO9
      have hb9 : Below w8.heap.size w8 w9 := ((Below.refl _ _).alloc (Nat.le_refl _) _).trans (hO9.below (Nat.le_refl _) (by simp))
      replace hbw4 := hbw4.trans (hb9.mono hbw4.size)
      replace hT4 := hT4.ext hb9
      replace hX := hX.ext hb9
      clear hO9 hb9
      have k0 : w9.cell? ⟨gt, 0, none⟩ = some (.string ⟨nm.toArray⟩) := by rw [hT4.cell]; rfl
      have k1 : w9.cell? ⟨gt, 1, none⟩ = some (.int .i64 I) := by rw [hT4.cell]; rfl
      have k2 : w9.cell? ⟨gt, 2, none⟩ = some (.int .i64 C) := by rw [hT4.cell]; rfl
      have k3 : w9.cell? ⟨gt, 3, none⟩ = some (.int .i64 v) := by rw [hT4.cell]; rfl
      have k4 : w9.cell? ⟨gt, 4, none⟩ = some (.int .i64 R) := by rw [hT4.cell]; rfl
      go_wp2_with (with_reducible refine stop_at 78 ?_)
      refine Stop.go (wpList_valw (by kernel_rfl) (r_loadBlk rfl hX Try.underlying35 rfl (size35 _ _ _ _ _)) ?_)
      go_wp2_with (with_reducible refine stop_at 79 ?_)
      refine Stop.go (wpList_valw (by kernel_rfl) (r_loadBlk rfl hY Try.underlying35 rfl (size35 _ _ _ _ _)) ?_)
      go_wp2_with (with_reducible refine stop_at 80 ?_)
      refine Stop.go (wpList_valw (by kernel_rfl) (r_eqTok (nm := []) (i := 0) (c := 0) (e := 0) (r := 0) (nm' := []) (i' := 0) (c' := 0) (e' := 0) (r' := 0) rfl rfl) ?_)
      rw [tokEq_self]
      go_wp2_with fail
      refine (wname_any nm _ (by omega)).mono ?_
      rintro _ wx ⟨rfl, rfl⟩
      rw [HNM.out]
      go_wp2
      go_ret
      first | exact ⟨rfl, hbw4⟩ | exact ⟨congrArg (fun b => Ending.returned (Value.bool b)) (by simp [hneg]), hbw4⟩
  by_cases hqk : q = 3
  · subst hqk
    have c1 : w3.cell? ⟨gt, 4, none⟩ = some (.int .i64 R) := by rw [hT.cell]; rfl
    have f1 : w3.frozen? ⟨gt, 4, none⟩ = false := hT.frozen 4
    have hT4 : Blk (w3.setCell ⟨gt, 4, none⟩ (.int .i64 v)) gt (tokV nm I C E v) 35 := hT.set 4 _
    have hbw4 := hbw.setCell (p := ⟨gt, 4, none⟩) hgt (.int .i64 v)
    clear hT hbw
    go_wp2_with (with_reducible refine stop_at 60 ?_)
    clear c1 f1
    generalize w3.setCell ⟨gt, 4, none⟩ (.int .i64 v) = w4 at *
    refine Stop.go (wpList_val rfl (r_loadBlk rfl hT4 Try.underlying35 rfl (size35 _ _ _ _ _)) ?_)
    go_wp2_with fail
    refine (rissue_any _ key nm I C E v _ (HK.out.ext hbw4) (by omega) (by omega)).mono ?_
    rintro _ w5 ⟨iv, rfl, hI, hb5⟩
    replace hbw4 := hbw4.trans (hb5.mono hbw4.size)
    replace hT4 := hT4.ext hb5
    clear hb5
    have hrd := read_issue key nm I C E v (by omega) (by omega) (by omega) (by omega) (by omega)
    generalize issueB key nm I C E v = B at *
    have HRD := Lib.hid hrd
    clear hrd
    obtain ⟨ia, ic, rfl, hic, him⟩ := hI.len
    unfold maxLen at him
    by_cases hneg : 0 ≤ v
    · have HR : Hid (readM key B = (tokV nm I C E v, true)) := Lib.hid (by
        rw [HRD.out]
        rw [if_neg (by omega), HNM.out, if_neg (by decide)])
      clear HRD
      go_wp2_with fail
      refine (read_any _ _ key B _ (HK.out.ext hbw4) hI (by omega)).mono ?_
      rintro _ w6 ⟨rfl, hb6⟩
      rw [HR.out]
      replace hbw4 := hbw4.trans (hb6.mono hbw4.size)
      replace hT4 := hT4.ext hb6
      replace hI := hI.ext hb6
      clear hb6
      go_wp2_with (with_reducible refine stop_st 15 66 ?_)
      refine Stop.go (wpList_store_blk rfl rfl rfl rfl (Blk.new w6 _ 35) rfl (size35 _ _ _ _ _) (by simp [tokV, zeroTok, Value.oneCell']) ?_)
      intro w7 hX hO7
      have hb7 : Below w6.heap.size w6 w7 := ((Below.refl _ _).alloc (Nat.le_refl _) _).trans (hO7.below (Nat.le_refl _) (by simp))
      replace hbw4 := hbw4.trans (hb7.mono hbw4.size)
      replace hT4 := hT4.ext hb7
      replace hI := hI.ext hb7
      clear hO7 hb7
      go_wp2_with fail
      refine (rread_any _ _ key B _ (HK.out.ext hbw4) hI (by omega)).mono ?_
      rintro _ w8 ⟨rfl, hb8⟩
      rw [HR.out]
      replace hbw4 := hbw4.trans (hb8.mono hbw4.size)
      replace hT4 := hT4.ext hb8
      replace hX := hX.ext hb8
      clear hb8 hI
      go_wp2_with (with_reducible refine stop_st 17 72 ?_)
      refine Stop.go (wpList_store_blk rfl rfl rfl rfl (Blk.new w8 _ 35) rfl (size35 _ _ _ _ _) (by simp [tokV, zeroTok, Value.oneCell']) ?_)
      intro w9 hY hO9
      have hb9 : Below w8.heap.size w8 w9 := ((Below.refl _ _).alloc (Nat.le_refl _) _).trans (hO9.below (Nat.le_refl _) (by simp))
      replace hbw4 := hbw4.trans (hb9.mono hbw4.size)
      replace hT4 := hT4.ext hb9
      replace hX := hX.ext hb9
      clear hO9 hb9
      have k0 : w9.cell? ⟨gt, 0, none⟩ = some (.string ⟨nm.toArray⟩) := by rw [hT4.cell]; rfl
      have k1 : w9.cell? ⟨gt, 1, none⟩ = some (.int .i64 I) := by rw [hT4.cell]; rfl
      have k2 : w9.cell? ⟨gt, 2, none⟩ = some (.int .i64 C) := by rw [hT4.cell]; rfl
      have k3 : w9.cell? ⟨gt, 3, none⟩ = some (.int .i64 E) := by rw [hT4.cell]; rfl
      have k4 : w9.cell? ⟨gt, 4, none⟩ = some (.int .i64 v) := by rw [hT4.cell]; rfl
      go_wp2_with (with_reducible refine stop_at 78 ?_)
      refine Stop.go (wpList_valw (by kernel_rfl) (r_loadBlk rfl hX Try.underlying35 rfl (size35 _ _ _ _ _)) ?_)
      go_wp2_with (with_reducible refine stop_at 79 ?_)
      refine Stop.go (wpList_valw (by kernel_rfl) (r_loadBlk rfl hY Try.underlying35 rfl (size35 _ _ _ _ _)) ?_)
      go_wp2_with (with_reducible refine stop_at 80 ?_)
      refine Stop.go (wpList_valw (by kernel_rfl) (r_eqTok (nm := nm) (i := I) (c := C) (e := E) (r := v) (nm' := nm) (i' := I) (c' := C) (e' := E) (r' := v) rfl rfl) ?_)
      rw [tokEq_self]
      go_wp2_with fail
      refine (wname_any nm _ (by omega)).mono ?_
      rintro _ wx ⟨rfl, rfl⟩
      rw [HNM.out]
      go_wp2
      go_ret
      first | exact ⟨rfl, hbw4⟩ | exact ⟨congrArg (fun b => Ending.returned (Value.bool b)) (by simp [hneg]), hbw4⟩
    · have HR : Hid (readM key B = (zeroTok, false)) := Lib.hid (by
        rw [HRD.out]
        rw [if_pos (by omega)])
      clear HRD
      go_wp2_with fail
      refine (read_any _ _ key B _ (HK.out.ext hbw4) hI (by omega)).mono ?_
      rintro _ w6 ⟨rfl, hb6⟩
      rw [HR.out]
      replace hbw4 := hbw4.trans (hb6.mono hbw4.size)
      replace hT4 := hT4.ext hb6
      replace hI := hI.ext hb6
      clear hb6
      go_wp2_with (with_reducible refine stop_st 15 66 ?_)
      refine Stop.go (wpList_store_blk rfl rfl rfl rfl (Blk.new w6 _ 35) rfl (size35 _ _ _ _ _) (by simp [tokV, zeroTok, Value.oneCell']) ?_)
      intro w7 hX hO7
      have hb7 : Below w6.heap.size w6 w7 := ((Below.refl _ _).alloc (Nat.le_refl _) _).trans (hO7.below (Nat.le_refl _) (by simp))
      replace hbw4 := hbw4.trans (hb7.mono hbw4.size)
      replace hT4 := hT4.ext hb7
      replace hI := hI.ext hb7
      clear hO7 hb7
      go_wp2_with fail
      refine (rread_any _ _ key B _ (HK.out.ext hbw4) hI (by omega)).mono ?_
      rintro _ w8 ⟨rfl, hb8⟩
      rw [HR.out]
      replace hbw4 := hbw4.trans (hb8.mono hbw4.size)
      replace hT4 := hT4.ext hb8
      replace hX := hX.ext hb8
      clear hb8 hI
      go_wp2_with (with_reducible refine stop_st 17 72 ?_)
      refine Stop.go (wpList_store_blk rfl rfl rfl rfl (Blk.new w8 _ 35) rfl (size35 _ _ _ _ _) (by simp [tokV, zeroTok, Value.oneCell']) ?_)
      intro w9 hY hO9
      have hb9 : Below w8.heap.size w8 w9 := ((Below.refl _ _).alloc (Nat.le_refl _) _).trans (hO9.below (Nat.le_refl _) (by simp))
      replace hbw4 := hbw4.trans (hb9.mono hbw4.size)
      replace hT4 := hT4.ext hb9
      replace hX := hX.ext hb9
      clear hO9 hb9
      have k0 : w9.cell? ⟨gt, 0, none⟩ = some (.string ⟨nm.toArray⟩) := by rw [hT4.cell]; rfl
      have k1 : w9.cell? ⟨gt, 1, none⟩ = some (.int .i64 I) := by rw [hT4.cell]; rfl
      have k2 : w9.cell? ⟨gt, 2, none⟩ = some (.int .i64 C) := by rw [hT4.cell]; rfl
      have k3 : w9.cell? ⟨gt, 3, none⟩ = some (.int .i64 E) := by rw [hT4.cell]; rfl
      have k4 : w9.cell? ⟨gt, 4, none⟩ = some (.int .i64 v) := by rw [hT4.cell]; rfl
      go_wp2_with (with_reducible refine stop_at 78 ?_)
      refine Stop.go (wpList_valw (by kernel_rfl) (r_loadBlk rfl hX Try.underlying35 rfl (size35 _ _ _ _ _)) ?_)
      go_wp2_with (with_reducible refine stop_at 79 ?_)
      refine Stop.go (wpList_valw (by kernel_rfl) (r_loadBlk rfl hY Try.underlying35 rfl (size35 _ _ _ _ _)) ?_)
      go_wp2_with (with_reducible refine stop_at 80 ?_)
      refine Stop.go (wpList_valw (by kernel_rfl) (r_eqTok (nm := []) (i := 0) (c := 0) (e := 0) (r := 0) (nm' := []) (i' := 0) (c' := 0) (e' := 0) (r' := 0) rfl rfl) ?_)
      rw [tokEq_self]
      go_wp2_with fail
      refine (wname_any nm _ (by omega)).mono ?_
      rintro _ wx ⟨rfl, rfl⟩
      rw [HNM.out]
      go_wp2
      go_ret
      first | exact ⟨rfl, hbw4⟩ | exact ⟨congrArg (fun b => Ending.returned (Value.bool b)) (by simp [hneg]), hbw4⟩
  have hqk : q = 4 := by omega
  subst hqk
  have c1 : w3.cell? ⟨gt, 0, none⟩ = some (.string ⟨nm.toArray⟩) := by rw [hT.cell]; rfl
  have f1 : w3.frozen? ⟨gt, 0, none⟩ = false := hT.frozen 0
  have hT4 : Blk (w3.setCell ⟨gt, 0, none⟩ (.string ⟨nn.toArray⟩)) gt (tokV nn I C E R) 35 := hT.set 0 _
  have hbw4 := hbw.setCell (p := ⟨gt, 0, none⟩) hgt (.string ⟨nn.toArray⟩)
  clear hT hbw
  go_wp2_with (with_reducible refine stop_at 60 ?_)
  clear c1 f1
  generalize w3.setCell ⟨gt, 0, none⟩ (.string ⟨nn.toArray⟩) = w4 at *
  refine Stop.go (wpList_val rfl (r_loadBlk rfl hT4 Try.underlying35 rfl (size35 _ _ _ _ _)) ?_)
  go_wp2_with fail
  refine (rissue_any _ key nn I C E R _ (HK.out.ext hbw4) (by omega) (by omega)).mono ?_
  rintro _ w5 ⟨iv, rfl, hI, hb5⟩
  replace hbw4 := hbw4.trans (hb5.mono hbw4.size)
  replace hT4 := hT4.ext hb5
  clear hb5
  have hrd := read_issue key nn I C E R (by omega) (by omega) (by omega) (by omega) (by omega)
  generalize issueB key nn I C E R = B at *
  have HRD := Lib.hid hrd
  clear hrd
  obtain ⟨ia, ic, rfl, hic, him⟩ := hI.len
  unfold maxLen at him
  cases hnn : namedM nn with
  | true =>
    have HNN := Lib.hid hnn
    clear hnn
    have HR : Hid (readM key B = (tokV nn I C E R, true)) := Lib.hid (by
      rw [HRD.out]
      rw [if_neg (by omega), HNN.out, if_neg (by decide)])
    clear HRD
    go_wp2_with fail
    refine (read_any _ _ key B _ (HK.out.ext hbw4) hI (by omega)).mono ?_
    rintro _ w6 ⟨rfl, hb6⟩
    rw [HR.out]
    replace hbw4 := hbw4.trans (hb6.mono hbw4.size)
    replace hT4 := hT4.ext hb6
    replace hI := hI.ext hb6
    clear hb6
    go_wp2_with (with_reducible refine stop_st 15 66 ?_)
    refine Stop.go (wpList_store_blk rfl rfl rfl rfl (Blk.new w6 _ 35) rfl (size35 _ _ _ _ _) (by simp [tokV, zeroTok, Value.oneCell']) ?_)
    intro w7 hX hO7
    have hb7 : Below w6.heap.size w6 w7 := ((Below.refl _ _).alloc (Nat.le_refl _) _).trans (hO7.below (Nat.le_refl _) (by simp))
    replace hbw4 := hbw4.trans (hb7.mono hbw4.size)
    replace hT4 := hT4.ext hb7
    replace hI := hI.ext hb7
    clear hO7 hb7
    go_wp2_with fail
    refine (rread_any _ _ key B _ (HK.out.ext hbw4) hI (by omega)).mono ?_
    rintro _ w8 ⟨rfl, hb8⟩
    rw [HR.out]
    replace hbw4 := hbw4.trans (hb8.mono hbw4.size)
    replace hT4 := hT4.ext hb8
    replace hX := hX.ext hb8
    clear hb8 hI
    go_wp2_with (with_reducible refine stop_st 17 72 ?_)
    refine Stop.go (wpList_store_blk rfl rfl rfl rfl (Blk.new w8 _ 35) rfl (size35 _ _ _ _ _) (by simp [tokV, zeroTok, Value.oneCell']) ?_)
    intro w9 hY hO9
    have hb9 : Below w8.heap.size w8 w9 := ((Below.refl _ _).alloc (Nat.le_refl _) _).trans (hO9.below (Nat.le_refl _) (by simp))
    replace hbw4 := hbw4.trans (hb9.mono hbw4.size)
    replace hT4 := hT4.ext hb9
    replace hX := hX.ext hb9
    clear hO9 hb9
    have k0 : w9.cell? ⟨gt, 0, none⟩ = some (.string ⟨nn.toArray⟩) := by rw [hT4.cell]; rfl
    have k1 : w9.cell? ⟨gt, 1, none⟩ = some (.int .i64 I) := by rw [hT4.cell]; rfl
    have k2 : w9.cell? ⟨gt, 2, none⟩ = some (.int .i64 C) := by rw [hT4.cell]; rfl
    have k3 : w9.cell? ⟨gt, 3, none⟩ = some (.int .i64 E) := by rw [hT4.cell]; rfl
    have k4 : w9.cell? ⟨gt, 4, none⟩ = some (.int .i64 R) := by rw [hT4.cell]; rfl
    go_wp2_with (with_reducible refine stop_at 78 ?_)
    refine Stop.go (wpList_valw (by kernel_rfl) (r_loadBlk rfl hX Try.underlying35 rfl (size35 _ _ _ _ _)) ?_)
    go_wp2_with (with_reducible refine stop_at 79 ?_)
    refine Stop.go (wpList_valw (by kernel_rfl) (r_loadBlk rfl hY Try.underlying35 rfl (size35 _ _ _ _ _)) ?_)
    go_wp2_with (with_reducible refine stop_at 80 ?_)
    refine Stop.go (wpList_valw (by kernel_rfl) (r_eqTok (nm := nn) (i := I) (c := C) (e := E) (r := R) (nm' := nn) (i' := I) (c' := C) (e' := E) (r' := R) rfl rfl) ?_)
    rw [tokEq_self]
    go_wp2_with fail
    refine (wname_any nn _ (by omega)).mono ?_
    rintro _ wx ⟨rfl, rfl⟩
    rw [HNN.out]
    go_wp2
    go_ret
    first | exact ⟨rfl, hbw4⟩ | exact ⟨congrArg (fun b => Ending.returned (Value.bool b)) (by simp [hneg]), hbw4⟩
  | false =>
    have HNN := Lib.hid hnn
    clear hnn
    have HR : Hid (readM key B = (zeroTok, false)) := Lib.hid (by
      rw [HRD.out]
      rw [if_neg (by omega), HNN.out, if_pos rfl])
    clear HRD
    go_wp2_with fail
    refine (read_any _ _ key B _ (HK.out.ext hbw4) hI (by omega)).mono ?_
    rintro _ w6 ⟨rfl, hb6⟩
    rw [HR.out]
    replace hbw4 := hbw4.trans (hb6.mono hbw4.size)
    replace hT4 := hT4.ext hb6
    replace hI := hI.ext hb6
    clear hb6
    go_wp2_with (with_reducible refine stop_st 15 66 ?_)
    refine Stop.go (wpList_store_blk rfl rfl rfl rfl (Blk.new w6 _ 35) rfl (size35 _ _ _ _ _) (by simp [tokV, zeroTok, Value.oneCell']) ?_)
    intro w7 hX hO7
    have hb7 : Below w6.heap.size w6 w7 := ((Below.refl _ _).alloc (Nat.le_refl _) _).trans (hO7.below (Nat.le_refl _) (by simp))
    replace hbw4 := hbw4.trans (hb7.mono hbw4.size)
    replace hT4 := hT4.ext hb7
    replace hI := hI.ext hb7
    clear hO7 hb7
    go_wp2_with fail
    refine (rread_any _ _ key B _ (HK.out.ext hbw4) hI (by omega)).mono ?_
    rintro _ w8 ⟨rfl, hb8⟩
    rw [HR.out]
    replace hbw4 := hbw4.trans (hb8.mono hbw4.size)
    replace hT4 := hT4.ext hb8
    replace hX := hX.ext hb8
    clear hb8 hI
    go_wp2_with (with_reducible refine stop_st 17 72 ?_)
    refine Stop.go (wpList_store_blk rfl rfl rfl rfl (Blk.new w8 _ 35) rfl (size35 _ _ _ _ _) (by simp [tokV, zeroTok, Value.oneCell']) ?_)
    intro w9 hY hO9
    have hb9 : Below w8.heap.size w8 w9 := ((Below.refl _ _).alloc (Nat.le_refl _) _).trans (hO9.below (Nat.le_refl _) (by simp))
    replace hbw4 := hbw4.trans (hb9.mono hbw4.size)
    replace hT4 := hT4.ext hb9
    replace hX := hX.ext hb9
    clear hO9 hb9
    have k0 : w9.cell? ⟨gt, 0, none⟩ = some (.string ⟨nn.toArray⟩) := by rw [hT4.cell]; rfl
    have k1 : w9.cell? ⟨gt, 1, none⟩ = some (.int .i64 I) := by rw [hT4.cell]; rfl
    have k2 : w9.cell? ⟨gt, 2, none⟩ = some (.int .i64 C) := by rw [hT4.cell]; rfl
    have k3 : w9.cell? ⟨gt, 3, none⟩ = some (.int .i64 E) := by rw [hT4.cell]; rfl
    have k4 : w9.cell? ⟨gt, 4, none⟩ = some (.int .i64 R) := by rw [hT4.cell]; rfl
    go_wp2_with (with_reducible refine stop_at 78 ?_)
    refine Stop.go (wpList_valw (by kernel_rfl) (r_loadBlk rfl hX Try.underlying35 rfl (size35 _ _ _ _ _)) ?_)
    go_wp2_with (with_reducible refine stop_at 79 ?_)
    refine Stop.go (wpList_valw (by kernel_rfl) (r_loadBlk rfl hY Try.underlying35 rfl (size35 _ _ _ _ _)) ?_)
    go_wp2_with (with_reducible refine stop_at 80 ?_)
    refine Stop.go (wpList_valw (by kernel_rfl) (r_eqTok (nm := []) (i := 0) (c := 0) (e := 0) (r := 0) (nm' := []) (i' := 0) (c' := 0) (e' := 0) (r' := 0) rfl rfl) ?_)
    rw [tokEq_self]
    go_wp2_with fail
    refine (wname_any nn _ (by omega)).mono ?_
    rintro _ wx ⟨rfl, rfl⟩
    rw [HNN.out]
    go_wp2
    go_ret
    first | exact ⟨rfl, hbw4⟩ | exact ⟨congrArg (fun b => Ending.returned (Value.bool b)) (by simp [hneg]), hbw4⟩
end Go.Proofs.Ythpjihiikkhcjaa
