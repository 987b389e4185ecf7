/-
  A part of the proofs of this seat: laws of the walk, or contracts of the functions that the statements reach. No conditions but those that each theorem names.
-/
import Derived.Lib.ConvBytes
import Derived.Test.YthpjihiikkhcjaaGi
namespace Go.Sp
open Go.RowKit
/-- A byte of a name, of any byte. -/
def nb (y : UInt8) : UInt8 := b8 (33 + (y.toNat : Int) % 94)
/-- The name that a text makes. -/
def nameB (l : List UInt8) : List UInt8 := if l = [] then [117] else (l.map nb).take 16
theorem b8_small (n : Int) (h0 : 0 ≤ n) (h : n < 256) : (b8 n).toNat = n.toNat := by
  obtain ⟨m, rfl⟩ := Int.eq_ofNat_of_zero_le h0
  show (UInt8.ofNat ((m : Int) % 2 ^ 8).toNat).toNat = (m : Int).toNat
  rw [UInt8.toNat_ofNat']
  omega
theorem nb_range (y : UInt8) : 33 ≤ (nb y).toNat ∧ (nb y).toNat ≤ 126 := by
  unfold nb
  have h1 := Int.emod_nonneg (y.toNat : Int) (b := 94) (by decide)
  have h2 := Int.emod_lt_of_pos (y.toNat : Int) (b := 94) (by decide)
  rw [b8_small _ (by omega) (by omega)]
  omega
theorem nameB_ok (l : List UInt8) : namedM (nameB l) = true := by
  unfold nameB
  split
  · decide
  · rename_i h
    have hpos : 0 < l.length := List.length_pos_iff.2 h
    unfold namedM
    rw [Bool.and_eq_true]
    constructor
    · rw [List.all_eq_true]
      intro y hy
      obtain ⟨x, _, rfl⟩ := List.mem_map.1 (List.mem_of_mem_take hy)
      simpa using nb_range x
    · simp; omega
theorem nameB_len (l : List UInt8) : 1 ≤ (nameB l).length ∧ (nameB l).length ≤ 16 := by
  unfold nameB
  split
  · simp
  · rename_i h
    have hpos : 0 < l.length := List.length_pos_iff.2 h
    simp; omega
/-- A row of bytes that may be written. -/
def WB (w : World) (g : Nat) (l : List UInt8) : Prop := g < w.heap.size ∧ ∀ (i : Nat) (y : UInt8), l[i]? = some y → w.cell? ⟨g, i, none⟩ = some (B y) ∧ w.frozen? ⟨g, i, none⟩ = false
theorem WB.set {w : World} {g : Nat} {l : List UInt8} (h : WB w g l) (i : Nat) (x : UInt8) (hi : i < l.length) : WB (w.setCell ⟨g, i, none⟩ (B x)) g (l.set i x) := by
  refine ⟨by simpa using h.1, fun j y hj => ?_⟩
  rw [World.frozen?_setCell]
  by_cases e : i = j
  · subst e
    rw [List.getElem?_set_self hi] at hj
    cases hj
    exact ⟨World.cell?_setCell_same _ _ _ (h.2 i l[i] (by simp [hi])).1, (h.2 i l[i] (by simp [hi])).2⟩
  · rw [List.getElem?_set_ne e] at hj
    rw [World.cell?_setCell_other _ _ _ _ (by simp [e])]
    exact h.2 j y hj
theorem WB.byt {w : World} {g cap : Nat} {l : List UInt8} (h : WB w g l) (hc : l.length ≤ cap) (hm : cap ≤ maxLen) : Byt w (.slice (some ⟨g, 0, none⟩) l.length cap) l :=
  .inr ⟨g, 0, cap, rfl, hc, hm, h.1, fun i b hi => by rw [Nat.zero_add]; exact (h.2 i b hi).1⟩
theorem r_quoT {ρ : Operand → Value} {d : Option Tmp} {t t' ty : TypeId} {pos : String} {aft : Array Edge} {g : Option (Nat × Bool)} {x y : Operand} {P : Program} {w : World} {a b c : Int} (hx : ρ x = .int .i64 a) (hy : ρ y = .int .i64 b) (ha : -9223372036854775808 ≤ a ∧ a ≤ 9223372036854775807) (hb : 1 < b) (hc : a.tdiv b = c) :
    (execOp ρ ⟨d, .binOp .quo t x y t', ty, pos, aft, g⟩).run P w = .ok (.value (.int .i64 c)) w := by
  have hr : -9223372036854775808 ≤ c ∧ c ≤ 9223372036854775807 := by
    rw [← hc]
    rcases Int.le_total 0 a with h | h
    · rw [Int.tdiv_eq_ediv_of_nonneg h]
      have h2 : 0 ≤ a / b := Int.ediv_nonneg h (by omega)
      have h3 : a / b ≤ a := Int.ediv_le_self _ h
      omega
    · have e : a = -(-a) := by omega
      rw [e, Int.neg_tdiv, Int.tdiv_eq_ediv_of_nonneg (by omega)]
      have h2 : 0 ≤ -a / b := Int.ediv_nonneg (by omega) (by omega)
      have h3 : -a / b ≤ -a := Int.ediv_le_self _ (by omega)
      omega
  refine r_bin hx hy rfl ?_
  have hb0 : b ≠ 0 := by omega
  have hw : IntKind.i64.wrap c = c := by rw [IntKind.wrap_i64]; omega
  simp [binOp, Op.intDiv, hb0, hc, hw]
theorem tdiv_in (a b : Int) (ha : -9223372036854775808 ≤ a ∧ a ≤ 9223372036854775807) (hb : 1 < b) : -9223372036854775808 ≤ a.tdiv b ∧ a.tdiv b ≤ 9223372036854775807 := by
  rcases Int.le_total 0 a with h | h
  · rw [Int.tdiv_eq_ediv_of_nonneg h]
    have h2 : 0 ≤ a / b := Int.ediv_nonneg h (by omega)
    have h3 : a / b ≤ a := Int.ediv_le_self _ h
    omega
  · have e : a = -(-a) := by omega
    rw [e, Int.neg_tdiv, Int.tdiv_eq_ediv_of_nonneg (by omega)]
    have h2 : 0 ≤ -a / b := Int.ediv_nonneg (by omega) (by omega)
    have h3 : -a / b ≤ -a := Int.ediv_le_self _ (by omega)
    omega
end Go.Sp
namespace Go.Proofs.Ythpjihiikkhcjaa
open Go.RowKit Go.Sp
set_option maxHeartbeats 400000 in
theorem within5_any (a n : Int) (ha : -9223372036854775808 ≤ a ∧ a ≤ 9223372036854775807) (hn : 0 < n) (hn' : n ≤ 4611686018427387904) (w : World) :
    Calls Try.prog 47 #[.int .i64 a, .int .i64 n] w fun e w' => e = .returned (.int .i64 (a % n)) ∧ w = w' := by
  have hz : ¬ n = 0 := by omega
  obtain ⟨h1, h2⟩ := ha
  rcases tmod_cases a n hn with ⟨h, he⟩ | ⟨h, he, h3⟩
  · have HE := Lib.hid he
    have hlt : ¬ a.tmod n < 0 := by omega
    clear he
    go_enter Try.func47, Try.ntmps47
    go_wp2
    go_ret
    exact ⟨by rw [← HE.out]; rfl, rfl⟩
  · have HE := Lib.hid he
    clear he
    go_enter Try.func47, Try.ntmps47
    go_wp2
    go_ret
    exact ⟨by rw [← HE.out]; rfl, rfl⟩
theorem conv_name (nm : List UInt8) (hl : nm.length ≤ 1000000) (u : World) : ∃ cap u', (convert 9 23 (.string ⟨nm.toArray⟩)).run Try.prog u = .ok (.slice (some ⟨u.heap.size, 0, none⟩) nm.length cap) u' ∧ nm.length ≤ cap ∧ cap ≤ maxLen ∧ WB u' u.heap.size nm ∧ Below u.heap.size u u' := by
  have hsz : (⟨nm.toArray⟩ : ByteArray).size = nm.length := rfl
  have hg := grownCap_ge u nm.length 0 5
  have hm := grownCap_le_maxLen u nm.length 0 5 (by unfold maxLen; omega)
  refine ⟨_, _, Lib.run_convert_string_bytes u 9 23 5 ⟨nm.toArray⟩ Try.underlying9 Try.underlying23 Try.underlying5, hg, hm, ⟨by rw [Lib.bytesWorld_size]; omega, fun i b hi => ⟨?_, ?_⟩⟩, ?_⟩
  · have hib : i < nm.length := (List.getElem?_eq_some_iff.1 hi).1
    rw [Lib.bytesWorld_cell u 5 ⟨nm.toArray⟩ i (by rw [hsz]; exact hib)]
    simp only [List.getD_eq_getElem?_getD]
    rw [hi]; rfl
  · have hib : i < nm.length := (List.getElem?_eq_some_iff.1 hi).1
    have hbc : nm.length ≤ (Lib.bytesCells u 5 ⟨nm.toArray⟩).size := by
      simp [Lib.bytesCells]
      try omega
    simp [World.frozen?, Lib.bytesWorld_at_new]
    omega
  · refine ⟨by simp [Lib.bytesWorld, World.freeze]; rfl, by simp [Lib.bytesWorld, World.freeze], by simp [Lib.bytesWorld, World.freeze]; rfl, by rw [Lib.bytesWorld_size]; omega, fun k hk => Lib.bytesWorld_at_old u 5 _ k hk⟩
set_option maxRecDepth 100000 in
set_option maxHeartbeats 4000000 in
theorem name_any (l : List UInt8) (w : World) (hl : l.length ≤ 1000000) :
    Calls Try.prog 26 #[.string ⟨l.toArray⟩] w fun e w' => e = .returned (.string ⟨(nameB l).toArray⟩) ∧ Below w.heap.size w w' := by
  obtain ⟨cap, u1, hr, hc1, hc2, hwb, hb1⟩ := conv_name l hl w
  unfold maxLen at hc2
  obtain ⟨R, hR⟩ : ∃ R, R = nameB l := ⟨_, rfl⟩
  rw [← hR]
  have HR := Lib.hid hR
  clear hR
  go_enter Try.func26, Try.ntmps26
  go_wp2_with (with_reducible refine stop_at 6 ?_)
  refine Stop.go (wpList_val rfl (r_conv rfl hr) ?_)
  clear hr
  go_wp2_with fail
  go_loopw [4] (fun i wr => ∃ k : Nat, k ≤ l.length ∧ i = .int .i64 k ∧ WB wr w.heap.size ((l.take k).map nb ++ l.drop k) ∧ Below w.heap.size w wr) (fun i _ => (l.length + 1 - intOf i).toNat)
  case atStart => exact ⟨0, by omega, rfl, by simpa using hwb, hb1⟩
  case round =>
    clear hwb hb1
    obtain ⟨k, hk, rfl, hW, hbw⟩ := hrel
    by_cases hlt : k < l.length
    · have hlt' : (k : Int) < (l.length : Int) := by omega
      have hk0 : (0 : Int) ≤ k := by omega
      have hget : ((l.take k).map nb ++ l.drop k)[k]? = some l[k] := by
        rw [List.getElem?_append_right (by simp; omega)]
        simp [Nat.min_eq_left hk, hlt]
      have hset : ((l.take k).map nb ++ l.drop k).set k (nb l[k]) = (l.take (k + 1)).map nb ++ l.drop (k + 1) := by
        apply List.ext_getElem?
        intro j
        rw [List.getElem?_set]
        by_cases e : k = j
        · subst e
          rw [if_pos rfl, if_pos (by simp; omega), List.getElem?_append_left (by simp; omega)]
          simp [hlt]
        · rw [if_neg e]
          by_cases hj : j < k
          · rw [List.getElem?_append_left (by simp; omega), List.getElem?_append_left (by simp; omega), List.getElem?_map, List.getElem?_map, List.getElem?_take, List.getElem?_take, if_pos hj, if_pos (by omega)]
          · rw [List.getElem?_append_right (by simp; omega), List.getElem?_append_right (by simp; omega), List.getElem?_drop, List.getElem?_drop]
            congr 1
            simp
            omega
      obtain ⟨hcy, hcf⟩ := hW.2 k _ hget
      have hW2 := hW.set k (nb l[k]) (by simp; omega)
      rw [hset] at hW2
      have hnb : nb l[k] = b8 (33 + (l[k].toNat : Int) % 94) := rfl
      have hy255 : (l[k].toNat : Int) < 256 := by have := l[k].toNat_lt; omega
      have hbw2 : Below w.heap.size w (wr.setCell ⟨w.heap.size, k, none⟩ (B (nb l[k]))) := hbw.setCell (p := ⟨w.heap.size, k, none⟩) (Nat.le_refl _) _
      rw [hnb] at hW2 hbw2
      generalize l[k] = y at *
      have HW2 := Lib.hid hW2
      have HBW2 := Lib.hid hbw2
      have hm1 := Int.emod_nonneg (y.toNat : Int) (b := 94) (by decide)
      have hm2 := Int.emod_lt_of_pos (y.toNat : Int) (b := 94) (by decide)
      clear hW2 hbw2 hW hget hset hnb
      go_wp2_with fail
      refine (within5_any (y.toNat : Int) 94 (by omega) (by decide) (by decide) _).mono ?_
      rintro _ wx ⟨rfl, rfl⟩
      obtain ⟨q, hq⟩ : ∃ q, q = (y.toNat : Int) % 94 := ⟨_, rfl⟩
      rw [← hq] at hm1 hm2 HW2 HBW2 ⊢
      clear hq
      go_wp2_with (with_reducible refine stop_at 21 ?_)
      refine Stop.go (wpList_val rfl (r_addI (c := 33 + q) rfl rfl ⟨rfl, by omega⟩) ?_)
      go_wp2_with (with_reducible refine stop_at 22 ?_)
      refine Stop.go (wpList_val rfl (r_conv rfl (run_convert_u8 _ 3 5 _ _ rfl Try.underlying5)) ?_)
      go_wp2
      go_roundw
      case rel => exact ⟨k + 1, by omega, by go_num, HW2.out, HBW2.out⟩
      case measure => simp [intOf]; omega
    · obtain rfl : k = l.length := by omega
      simp only [List.take_length, List.drop_length, List.append_nil] at hW
      have hWb := hW.byt (cap := cap) (by simpa using hc1) (by unfold maxLen; exact hc2)
      rw [List.length_map] at hWb
      by_cases h0 : l = []
      · have hl0 : ((l.length : Int) == 0) = true := by simp [h0]
        have HR0 : Hid (R = [117]) := Lib.hid (by rw [HR.out]; simp [nameB, h0])
        clear hW hWb
        go_wp2
        go_ret
        exact ⟨by rw [HR0.out]; rfl, hbw⟩
      · have hpos : 0 < l.length := List.length_pos_iff.2 h0
        have hl0 : ((l.length : Int) == 0) = false := by simp; omega
        obtain ⟨m, hm⟩ : ∃ m, m = min l.length 16 := ⟨_, rfl⟩
        have hmi : (m : Int) = min (l.length : Int) 16 := by omega
        have hcut := hWb.cut 0 m (by omega) (by simp; omega)
        have HR0 : Hid (R = ((l.map nb).take m).drop 0) := Lib.hid (by
          rw [HR.out, nameB, if_neg h0, List.drop_zero, hm]
          apply List.ext_getElem?
          intro j
          rw [List.getElem?_take, List.getElem?_take]
          by_cases hj : j < l.length
          · have : (j < min l.length 16) = (j < 16) := by simp; omega
            simp [this]
          · have : (l.map nb)[j]? = none := by simp; omega
            simp [this])
        have HMI := Lib.hid hmi
        have hm1 : m ≤ l.length := by omega
        clear hmi hm hW hWb h0
        go_wp2_with (with_reducible refine stop_at 30 ?_)
        refine Stop.go (wpList_val rfl (r_min rfl rfl HMI.out.symm) ?_)
        go_wp2_with (with_reducible refine stop_at 31 ?_)
        refine Stop.go (wpList_val rfl (r_slH (k' := .i64) (hi := m) sl1_29 rfl rfl (by omega)) ?_)
        go_wp2_with (with_reducible refine stop_at 32 ?_)
        refine Stop.go (wpList_val rfl (r_conv rfl (Byt.str hcut Try.underlying23 Try.underlying5 Try.underlying9)) ?_)
        go_wp2
        go_ret
        exact ⟨by rw [HR0.out, List.drop_zero]; rfl, hbw⟩
/-- The numbers of a token, of any number. -/
def tkI (n : Int) : Int := n % 1125899906842624
def tkC (n : Int) : Int := n.tdiv 3 % 1073741824
def tkE (n : Int) : Int := n.tdiv 5 % 5000
def tkR (n : Int) : Int := n.tdiv 7 % 100
theorem tk_range (n : Int) : (0 ≤ tkI n ∧ tkI n < 1125899906842624) ∧ (0 ≤ tkC n ∧ tkC n < 1073741824) ∧ (0 ≤ tkE n ∧ tkE n < 5000) ∧ (0 ≤ tkR n ∧ tkR n < 100) := by
  unfold tkI tkC tkE tkR
  refine ⟨⟨?_, ?_⟩, ⟨?_, ?_⟩, ⟨?_, ?_⟩, ⟨?_, ?_⟩⟩
  all_goals first | exact Int.emod_nonneg _ (by decide) | exact Int.emod_lt_of_pos _ (by decide)
set_option maxRecDepth 100000 in
set_option maxHeartbeats 4000000 in
theorem token_any (n : Int) (l : List UInt8) (w : World) (hn : -9223372036854775808 ≤ n ∧ n ≤ 9223372036854775807) (hl : l.length ≤ 1000000) :
    Calls Try.prog 20 #[.int .i64 n, .string ⟨l.toArray⟩] w fun e w' => e = .returned (.agg (tokV (nameB l) (tkI n) (tkC n) (tkE n) (tkR n))) ∧ Below w.heap.size w w' := by
  obtain ⟨q3, hq3⟩ : ∃ q, q = n.tdiv 3 := ⟨_, rfl⟩
  obtain ⟨q5, hq5⟩ : ∃ q, q = n.tdiv 5 := ⟨_, rfl⟩
  obtain ⟨q7, hq7⟩ : ∃ q, q = n.tdiv 7 := ⟨_, rfl⟩
  have h3 := tdiv_in n 3 hn (by decide)
  have h5 := tdiv_in n 5 hn (by decide)
  have h7 := tdiv_in n 7 hn (by decide)
  rw [← hq3] at h3
  rw [← hq5] at h5
  rw [← hq7] at h7
  have HQ3 := Lib.hid hq3
  have HQ5 := Lib.hid hq5
  have HQ7 := Lib.hid hq7
  unfold tkI tkC tkE tkR
  rw [← hq3, ← hq5, ← hq7]
  clear hq3 hq5 hq7
  obtain ⟨a1, ha1⟩ : ∃ q, q = n % 1125899906842624 := ⟨_, rfl⟩
  obtain ⟨a2, ha2⟩ : ∃ q, q = q3 % 1073741824 := ⟨_, rfl⟩
  obtain ⟨a3, ha3⟩ : ∃ q, q = q5 % 5000 := ⟨_, rfl⟩
  obtain ⟨a4, ha4⟩ : ∃ q, q = q7 % 100 := ⟨_, rfl⟩
  rw [← ha1, ← ha2, ← ha3, ← ha4]
  have HA1 := Lib.hid ha1
  have HA2 := Lib.hid ha2
  have HA3 := Lib.hid ha3
  have HA4 := Lib.hid ha4
  clear ha1 ha2 ha3 ha4
  have hzt : (#[.string ⟨#[]⟩, .int .i64 0, .int .i64 0, .int .i64 0, .int .i64 0] : Array Value) = tokV [] 0 0 0 0 := rfl
  have hT4 : Blk (w.alloc (.cells (tokV [] 0 0 0 0) 35)) w.heap.size (tokV [] 0 0 0 0) 35 := Blk.new w _ 35
  have hbw : Below w.heap.size w (w.alloc (.cells (tokV [] 0 0 0 0) 35)) := (Below.refl _ _).alloc (Nat.le_refl _) _
  rw [← hzt] at hT4 hbw
  have HZT := Lib.hid hzt
  clear hzt
  go_enter Try.func20, Try.ntmps20
  go_wp2_with fail
  refine (name_any l _ hl).mono ?_
  rintro _ w2 ⟨rfl, hb2⟩
  replace hT4 := hT4.ext hb2
  replace hbw := hbw.trans (hb2.mono hbw.size)
  rw [HZT.out] at hT4
  clear hb2
  go_wp2_with fail
  refine (within_any n 1125899906842624 hn (by decide) (by decide) _).mono ?_
  rintro _ wx ⟨rfl, rfl⟩
  rw [← HA1.out]
  go_wp2_with (with_reducible refine stop_at 10 ?_)
  refine Stop.go (wpList_val rfl (r_quoT rfl rfl hn (by decide) HQ3.out.symm) ?_)
  go_wp2_with fail
  refine (within_any q3 1073741824 h3 (by decide) (by decide) _).mono ?_
  rintro _ wx ⟨rfl, rfl⟩
  rw [← HA2.out]
  go_wp2_with (with_reducible refine stop_at 13 ?_)
  refine Stop.go (wpList_val rfl (r_quoT rfl rfl hn (by decide) HQ5.out.symm) ?_)
  go_wp2_with fail
  refine (within_any q5 5000 h5 (by decide) (by decide) _).mono ?_
  rintro _ wx ⟨rfl, rfl⟩
  rw [← HA3.out]
  go_wp2_with (with_reducible refine stop_at 16 ?_)
  refine Stop.go (wpList_val rfl (r_quoT rfl rfl hn (by decide) HQ7.out.symm) ?_)
  go_wp2_with fail
  refine (within_any q7 100 h7 (by decide) (by decide) _).mono ?_
  rintro _ wx ⟨rfl, rfl⟩
  rw [← HA4.out]
  go_wp2_with (with_reducible refine stop_st 4 18 ?_)
  refine Stop.go (wpList_store_blk (out := tokV (nameB l) a1 a2 a3 a4) rfl rfl rfl rfl hT4 rfl (size35 _ _ _ _ _) (by simp [tokV, Value.oneCell']) ?_)
  intro wz hRz hOz
  have hbwz := hbw.trans (hOz.below (Nat.le_refl _) hbw.size)
  clear hOz
  go_wp2
  exact bodyPost_ret (results_cell_row rfl _ _ w.heap.size 35 _ (0, 0) _ rfl hRz Try.underlying35 rfl (size35 _ _ _ _ _)) rfl ⟨rfl, hbwz⟩
end Go.Proofs.Ythpjihiikkhcjaa
namespace Go.Sp
open Go.RowKit
theorem Own.ne {e t : TypeId} {n g : Nat} {w : World} {v : Value} {l : List UInt8} {cs : Array Value} (h : Own e n w v l) (hB : Blk w g cs t) (ht : t ≠ e) : v.ownBlock ≠ some g := by
  intro hv
  rcases h.2 with ⟨rfl, _⟩ | ⟨k, cap, cur, rfl, _, hk, _⟩
  · simp [Value.ownBlock] at hv
  · simp [Value.ownBlock] at hv
    subst hv
    have h1 : w.heap[k]? = some (.cells cs t (0, 0)) := hB
    rw [h1] at hk
    cases hk
    exact ht rfl
theorem Blk.grown {w w' : World} {g : Nat} {cs : Array Value} {t : TypeId} {row : Option Nat} (h : Blk w g cs t) (hg : w.grownBy w' row) (hne : row ≠ some g) : Blk w' g cs t :=
  (hg.block g h.lt (fun e => hne e.symm)).trans h
end Go.Sp
namespace Go.Proofs.Ythpjihiikkhcjaa
open Go.RowKit Go.Sp
set_option maxHeartbeats 2000000 in
theorem rnumber_any (v : Value) (l : List UInt8) (w : World) (hv : Byt w v l) (hl : 8 ≤ l.length) :
    Calls Try.prog 46 #[v] w fun e w' => e = .returned (.int .i64 (numB (l.take 8))) ∧ w' = w := by
  have HV := Lib.hid hv
  obtain ⟨va, vc, rfl, hvc, hvm⟩ := hv.len
  unfold maxLen at hvm
  go_enter Try.func46, Try.ntmps46
  go_wp2_with fail
  go_loopw [4, 3] (fun i n wr => ∃ (k : Nat) (m : Int), k ≤ 8 ∧ i = .int .i64 k ∧ n = .int .i64 m ∧ m = numB (l.take k) ∧ wr = w) (fun i _ _ => (8 - intOf i).toNat)
  case atStart => exact ⟨0, 0, by omega, rfl, rfl, rfl, rfl⟩
  case round =>
    obtain ⟨k, m, hk, rfl, rfl, hm, rfl⟩ := hrel
    have HM := Lib.hid hm
    clear hm
    by_cases hlt : k < 8
    · have hlt' : (k : Int) < 8 := by omega
      have hkl : (k : Int) < (l.length : Int) := by omega
      have hk0 : (0 : Int) ≤ k := by omega
      obtain ⟨y, hy⟩ : ∃ y, l[k]? = some y := ⟨l[k]'(by omega), List.getElem?_eq_getElem (by omega)⟩
      rcases HV.out with ⟨_, h0⟩ | ⟨g, off, cap, he, _, _, hg, hc⟩
      · rw [h0] at hy; cases hy
      simp only [Value.slice.injEq, true_and] at he
      obtain ⟨rfl, rfl⟩ := he
      have hcy := hc k y hy
      have HS := Lib.hid (numB_take l k y hy)
      clear hc hy
      go_wp2
      go_roundw
      case rel => exact ⟨k + 1, _, by omega, by go_num, rfl, by rw [HS.out, ← HM.out]; rfl, by first | rfl | trivial⟩
      case measure => simp [intOf]; omega
    · obtain rfl : k = 8 := by omega
      go_wp2
      go_ret
      exact ⟨by rw [HM.out]; rfl, rfl⟩
theorem pf46 : plainFn Try.prog 46 = true := by kernel_rfl
set_option maxHeartbeats 4000000 in
theorem wname_any (l : List UInt8) (w : World) (hl : l.length ≤ 1000000) :
    Calls Try.prog 30 #[.string ⟨l.toArray⟩] w fun e w' => e = .returned (.bool (namedM l)) ∧ w' = w := by
  obtain ⟨R, hR⟩ : ∃ R, R = namedM l := ⟨_, rfl⟩
  rw [← hR]
  have HR := Lib.hid hR
  clear hR
  have hsz : (⟨l.toArray⟩ : ByteArray).size = l.length := rfl
  go_enter Try.func30, Try.ntmps30
  go_wp2_with fail
  go_loopw [3] (fun i wr => ∃ (k : Nat), k ≤ l.length ∧ i = .int .i64 k ∧ (∀ j y, j < k → l[j]? = some y → 33 ≤ y.toNat ∧ y.toNat ≤ 126) ∧ wr = w) (fun i _ => (l.length + 1 - intOf i).toNat)
  case atStart => exact ⟨0, by omega, rfl, fun j y hj => by omega, rfl⟩
  case round =>
    obtain ⟨k, hk, rfl, hall, rfl⟩ := hrel
    have HALL := Lib.hid hall
    clear hall
    by_cases hlt : k < l.length
    · have hlt' : (k : Int) < (l.length : Int) := by omega
      have e1 : ((⟨l.toArray⟩ : ByteArray)[k]'hlt) = l[k] := rfl
      have E1 := Lib.hid e1
      clear e1
      by_cases h1 : (((⟨l.toArray⟩ : ByteArray)[k]'hlt).toNat : Int) < 33
      · have HF : Hid (R = false) := Lib.hid (by rw [HR.out]; exact named_false l k hlt (fun h => by rw [E1.out] at h1; omega))
        go_wp2
        go_ret
        exact ⟨by rw [HF.out]; rfl, rfl⟩
      · by_cases h2 : (126 : Int) < ((⟨l.toArray⟩ : ByteArray)[k]'hlt).toNat
        · have HF : Hid (R = false) := Lib.hid (by rw [HR.out]; exact named_false l k hlt (fun h => by rw [E1.out] at h2; omega))
          go_wp2
          go_ret
          exact ⟨by rw [HF.out]; rfl, rfl⟩
        · have hall' : ∀ j y, j < k + 1 → l[j]? = some y → 33 ≤ y.toNat ∧ y.toNat ≤ 126 := fun j y hj hy => by
            by_cases e : j = k
            · subst e
              rw [List.getElem?_eq_getElem hlt] at hy
              cases hy
              rw [E1.out] at h1 h2
              omega
            · exact HALL.out j y (by omega) hy
          have HALL' := Lib.hid hall'
          clear hall'
          go_wp2
          go_roundw
          case rel => exact ⟨k + 1, by omega, by go_num, HALL'.out, by first | rfl | trivial⟩
          case measure => simp [intOf]; omega
    · obtain rfl : k = l.length := by omega
      have HT : Hid (R = decide (1 ≤ l.length ∧ l.length ≤ 16)) := Lib.hid (by rw [HR.out]; exact named_true l HALL.out)
      by_cases h3 : (0 : Int) < (l.length : Int)
      · by_cases h4 : (l.length : Int) ≤ 16
        · have HF : Hid (R = true) := Lib.hid (by rw [HT.out]; simp; omega)
          go_wp2
          go_ret
          exact ⟨by rw [HF.out]; rfl, rfl⟩
        · have HF : Hid (R = false) := Lib.hid (by rw [HT.out]; simp; omega)
          go_wp2
          go_ret
          exact ⟨by rw [HF.out]; rfl, rfl⟩
      · have HF : Hid (R = false) := Lib.hid (by rw [HT.out]; simp; omega)
        go_wp2
        go_ret
        exact ⟨by rw [HF.out]; rfl, rfl⟩
theorem tk_nth (i c e r : Int) (k : Nat) (h : k < 4) (nm : List UInt8) : ∃ x : Int, (#[Value.int .i64 i, .int .i64 c, .int .i64 e, .int .i64 r] : Array Value)[k]? = some (.int .i64 x) ∧ ([[b8 nm.length], nm, eight i, eight c, eight e, eight r] : List (List UInt8))[2 + k]? = some (eight x) := by
  obtain rfl | rfl | rfl | rfl : k = 0 ∨ k = 1 ∨ k = 2 ∨ k = 3 := by omega
  · exact ⟨i, rfl, rfl⟩
  · exact ⟨c, rfl, rfl⟩
  · exact ⟨e, rfl, rfl⟩
  · exact ⟨r, rfl, rfl⟩
set_option maxRecDepth 100000 in
set_option maxHeartbeats 4000000 in
theorem body_any (nm : List UInt8) (i c e r : Int) (w : World) (hnl : nm.length ≤ 1000) :
    Calls Try.prog 43 #[.agg (tokV nm i c e r)] w fun e' w' => ∃ v', e' = .returned v' ∧ Sp.Own 5 (w.heap.size + 1) w' v' (bodyB nm i c e r) ∧ Below w.heap.size w w' := by
  have hb : Below w.heap.size w (w.alloc (.cells (tokV nm i c e r) 35)) := (Below.refl _ _).alloc (Nat.le_refl _) _
  have hT : Blk (w.alloc (.cells (tokV nm i c e r) 35)) w.heap.size (tokV nm i c e r) 35 := Blk.new w _ 35
  obtain ⟨w1, hw1⟩ : ∃ u, u = w.alloc (.cells (tokV nm i c e r) 35) := ⟨_, rfl⟩
  have hs1 : w1.heap.size = w.heap.size + 1 := by rw [hw1]; simp
  rw [← hw1] at hb hT
  have hwl : w.alloc (.cells #[.string ⟨nm.toArray⟩, .int .i64 i, .int .i64 c, .int .i64 e, .int .i64 r] 35) = w1 := hw1.symm
  have HWL := Lib.hid hwl
  have HS1 := Lib.hid hs1
  clear hw1 hwl hs1
  have t0 : w1.cell? ⟨w.heap.size, 0, none⟩ = some (.string ⟨nm.toArray⟩) := by rw [hT.cell]; rfl
  have hsz : (⟨nm.toArray⟩ : ByteArray).size = nm.length := rfl
  show Calls Try.prog 43 #[.agg #[_, _, _, _, _]] w _
  go_enter Try.func43, Try.ntmps43
  go_wp2_with (with_reducible refine stop_at 6 ?_)
  rw [HWL.out]
  refine Stop.go ?_
  clear HWL
  go_wp2_with (with_reducible refine stop_at 8 ?_)
  refine Stop.go (wpList_val rfl (r_lenS rfl Try.underlying9) ?_)
  rw [hsz]
  clear hsz
  go_wp2_with (with_reducible refine stop_at 9 ?_)
  refine Stop.go (wpList_val rfl (r_conv rfl (run_convert_u8 _ 3 5 _ _ rfl Try.underlying5)) ?_)
  go_wp2_with (with_reducible refine stop_at 12 ?_)
  have hO2 : Sp.Own 5 (w.heap.size + 1) (w1.alloc (.cells #[B (b8 (nm.length : Int))] 5)) (.slice (some ⟨w1.heap.size, 0, none⟩) 1 1) [b8 (nm.length : Int)] := Sp.Own.lit 5 (w.heap.size + 1) w1 [b8 (nm.length : Int)] (by rw [HS1.out]; exact Nat.le_refl _) (by simp [maxLen])
  have hb2 := hb.alloc hb.size (.cells #[B (b8 (nm.length : Int))] 5)
  have hT2 := hT.alloc (.cells #[B (b8 (nm.length : Int))] 5)
  generalize w1.alloc (.cells #[B (b8 (nm.length : Int))] 5) = w2 at *
  generalize w1.heap.size = g1 at *
  clear hb hT t0
  refine Stop.go (wpList_val rfl (r_load rfl on9 ((hT2.cell 0).trans rfl)) ?_)
  go_wp2_with (with_reducible refine stop_at 13 ?_)
  obtain ⟨nv, w3, hr3, hby, hb3⟩ := run_string_bytes nm (by omega) w2
  refine Stop.go (wpList_val rfl (r_conv rfl hr3) ?_)
  clear hr3
  replace hO2 := hO2.below hb3
  replace hT2 := hT2.ext hb3
  replace hb2 := hb2.trans (hb3.mono hb2.size)
  clear hb3
  go_wp2_with (at_builtin; refine stop_here ?_)
  refine Stop.go (wpList_append_byt rfl rfl byt29 hO2 hby rfl rfl (by simp; omega) hT2.lt ?_)
  intro v' w4 hO4 hg4 _
  have hT4 := hT2.grown hg4 (hO2.ne hT2 (by decide))
  have hb4 := hb2.trans (toBelow hg4 hb2.size (fun k hk => by have := hO2.lt k hk; omega))
  clear hO2 hT2 hb2 hby hg4
  have t1 : w4.cell? ⟨w.heap.size, 1, none⟩ = some (.int .i64 i) := by rw [hT4.cell]; rfl
  have t2 : w4.cell? ⟨w.heap.size, 2, none⟩ = some (.int .i64 c) := by rw [hT4.cell]; rfl
  have t3 : w4.cell? ⟨w.heap.size, 3, none⟩ = some (.int .i64 e) := by rw [hT4.cell]; rfl
  have t4 : w4.cell? ⟨w.heap.size, 4, none⟩ = some (.int .i64 r) := by rw [hT4.cell]; rfl
  go_wp2_with fail
  clear t1 t2 t3 t4
  have hS5 : Blk (w4.alloc (.cells #[.int .i64 i, .int .i64 c, .int .i64 e, .int .i64 r] 3)) w4.heap.size #[.int .i64 i, .int .i64 c, .int .i64 e, .int .i64 r] 3 := Blk.new _ _ _
  have hO5 := hO4.below ((Below.refl _ _).alloc (Nat.le_refl _) (.cells #[.int .i64 i, .int .i64 c, .int .i64 e, .int .i64 r] 3))
  have hb5 := hb4.alloc hb4.size (.cells #[.int .i64 i, .int .i64 c, .int .i64 e, .int .i64 r] 3)
  have hgs := hT4.lt
  generalize w4.alloc (.cells #[.int .i64 i, .int .i64 c, .int .i64 e, .int .i64 r] 3) = w5 at *
  generalize w4.heap.size = gs at *
  clear hT4 hO4 hb4
  have h2 : ∀ k, k ≤ 4 → (cat (([[b8 nm.length], nm, eight i, eight c, eight e, eight r] : List (List UInt8)).take (2 + k))).length ≤ 2000 := fun k hk => by
    refine Nat.le_trans (cat_le _ _) ?_
    simp [cat, eight_length]
    omega
  have H2 := Lib.hid h2
  clear h2
  go_loopw [5, 3] (fun i_ b wr => ∃ k : Nat, k ≤ 4 ∧ i_ = .int .i64 k ∧ Sp.Own 5 (w.heap.size + 1) wr b (cat (([[b8 nm.length], nm, eight i, eight c, eight e, eight r] : List (List UInt8)).take (2 + k))) ∧ Blk wr gs #[.int .i64 i, .int .i64 c, .int .i64 e, .int .i64 r] 3 ∧ Below w.heap.size w wr) (fun i_ _ _ => (5 - intOf i_).toNat)
  case atStart => exact ⟨0, by omega, rfl, by simpa [cat] using hO5, hS5, hb5⟩
  case round =>
    clear hO5 hS5 hb5
    obtain ⟨k, hk4, rfl, hO, hS, hbw⟩ := hrel
    by_cases hlt : k < 4
    · have hlt' : (k : Int) < 4 := by omega
      have hk0 : (0 : Int) ≤ k := by omega
      obtain ⟨x, hx1, hx2⟩ := tk_nth i c e r k hlt nm
      have hcx : wr.cell? ⟨gs, k, none⟩ = some (.int .i64 x) := by rw [hS.cell]; exact hx1
      have hsn := cat_snoc _ (2 + k) _ hx2
      have HSN := Lib.hid hsn
      clear hsn hx1 hx2
      go_wp2_with fail
      refine (eight_any x _).mono ?_
      rintro _ v1 ⟨ev, rfl, hE, hb1⟩
      replace hO := hO.below hb1
      replace hS := hS.ext hb1
      replace hbw := hbw.trans (hb1.mono hbw.size)
      clear hb1 hcx
      go_wp2_with (at_builtin; refine stop_here ?_)
      refine Stop.go (wpList_append_byt rfl rfl byt29 hO hE.byt rfl rfl (by have := H2.out k hk4; rw [eight_length]; omega) (by have := hS.lt; omega) ?_)
      intro v' v2 hO2 hg2 _
      have hS2 := hS.grown hg2 (hO.ne hS (by decide))
      have hb2 := hbw.trans (toBelow hg2 hbw.size (fun j hj => by have := hO.lt j hj; omega))
      rw [← HSN.out] at hO2
      clear hO hS hbw hE hg2
      go_wp2
      go_roundw
      case rel => exact ⟨k + 1, by omega, by go_num, hO2, hS2, hb2⟩
      case measure => simp [intOf]; omega
    · obtain rfl : k = 4 := by omega
      go_wp2
      go_ret
      exact ⟨_, rfl, hO, hbw⟩
set_option maxRecDepth 100000 in
set_option maxHeartbeats 4000000 in
theorem rissue_any (kv : Value) (key nm : List UInt8) (i c e r : Int) (w : World) (hk : Byt w kv key) (hkl : key.length ≤ 1000) (hnl : nm.length ≤ 1000) :
    Calls Try.prog 23 #[kv, .agg (tokV nm i c e r)] w fun e' w' => ∃ v', e' = .returned v' ∧ Byt w' v' (issueB key nm i c e r) ∧ Below w.heap.size w w' := by
  have HK := Lib.hid hk
  obtain ⟨va, vc, rfl, hvc, hvm⟩ := hk.len
  unfold maxLen at hvm
  clear hk
  have HBL := Lib.hid (flat_cat nm i c e r)
  obtain ⟨R, hRR⟩ : ∃ R, R = issueB key nm i c e r := ⟨_, rfl⟩
  rw [← hRR]
  unfold issueB at hRR
  have HRR := Lib.hid hRR
  clear hRR
  have hb : Below w.heap.size w (w.alloc (.cells (tokV nm i c e r) 35)) := (Below.refl _ _).alloc (Nat.le_refl _) _
  have hT : Blk (w.alloc (.cells (tokV nm i c e r) 35)) w.heap.size (tokV nm i c e r) 35 := Blk.new w _ 35
  obtain ⟨w1, hw1⟩ : ∃ u, u = w.alloc (.cells (tokV nm i c e r) 35) := ⟨_, rfl⟩
  have hs1 : w1.heap.size = w.heap.size + 1 := by rw [hw1]; simp
  rw [← hw1] at hb hT
  have hwl : w.alloc (.cells #[.string ⟨nm.toArray⟩, .int .i64 i, .int .i64 c, .int .i64 e, .int .i64 r] 35) = w1 := hw1.symm
  have HWL := Lib.hid hwl
  have HS1 := Lib.hid hs1
  clear hw1 hwl hs1
  show Calls Try.prog 23 #[_, .agg #[_, _, _, _, _]] w _
  go_enter Try.func23, Try.ntmps23
  go_wp2_with (with_reducible refine stop_at 6 ?_)
  rw [HWL.out]
  refine Stop.go (wpList_val rfl (r_loadBlk rfl hT Try.underlying35 rfl (size35 _ _ _ _ _)) ?_)
  clear HWL hT
  go_wp2_with fail
  refine (body_any nm i c e r _ hnl).mono ?_
  rintro _ w2 ⟨bv, rfl, hO, hb2⟩
  replace hb := hb.trans (hb2.mono hb.size)
  replace hO := hO.mono (m := w.heap.size) (by rw [HS1.out]; omega)
  clear hb2 HS1
  generalize bodyB nm i c e r = bd at *
  have HBL2 : Hid (bd.length ≤ 1033) := Lib.hid (by have := HBL.out; omega)
  obtain ⟨ba, bc, rfl, hbc, hbm⟩ := hO.byt.len
  unfold maxLen at hbm
  go_wp2_with (with_reducible refine stop_at 11 ?_)
  obtain ⟨u2, hr2, hbt, hbl2⟩ := conv_token w2 tokenS (by decide)
  have hr2' : (convert 23 23 (.slice (some ⟨w2.heap.size, 0, none⟩) 5 5)).run Try.prog (w2.alloc (.cells #[.int .u8 116, .int .u8 111, .int .u8 107, .int .u8 101, .int .u8 110] 5)) = .ok (.slice (some ⟨w2.heap.size, 0, none⟩) 5 5) u2 := hr2
  have hbt2 : Byt u2 (.slice (some ⟨w2.heap.size, 0, none⟩) 5 5) tokenS := hbt
  refine Stop.go (wpList_val rfl (r_conv rfl hr2') ?_)
  replace hO := hO.below hbl2
  replace hb := hb.trans (hbl2.mono hb.size)
  generalize w2.heap.size = g2 at *
  clear hr2 hr2' hbt hbl2
  go_wp2_with fail
  have ha := (Below.refl u2.heap.size u2).alloc (Nat.le_refl _) (.cells #[.slice (some ⟨g2, 0, none⟩) 5 5, .slice ba bd.length bc] 23)
  refine (rmac_any _ _ key [tokenS, bd] _ ((HK.out.ext hb).ext ha) (by omega) (Lst.two hbt2 hO.byt) (by have := HBL2.out; simp [flat, eight_length, tokenS]; omega)).mono ?_
  rintro _ u3 ⟨rfl, hb3⟩
  have hbb := ha.trans (hb3.mono ha.size)
  replace hO := hO.below hbb
  replace hb := hb.trans (hbb.mono hb.size)
  clear ha hb3 hbb hbt2
  have HAL := Lib.hid (macB_length key [tokenS, bd])
  generalize macB key [tokenS, bd] = A at *
  go_wp2_with fail
  refine (rbytes_any A _ HAL.out).mono ?_
  rintro _ u4 ⟨av, rfl, hA4, hb4⟩
  replace hO := hO.below hb4
  replace hb := hb.trans (hb4.mono hb.size)
  clear hb4
  go_wp2_with (at_builtin; refine stop_here ?_)
  refine Stop.go (wpList_append_byt rfl rfl byt29 hO hA4.byt rfl rfl (by have := HBL2.out; have := HAL.out; omega) hb.size ?_)
  intro v' u5 hO5 hg5 _
  have hb5 := hb.trans (toBelow hg5 hb.size (fun j hj => (hO.lt j hj).1))
  clear hO hb hg5 hA4
  go_wp2
  go_ret
  exact ⟨_, rfl, by rw [HRR.out]; exact hO5.byt, hb5⟩
theorem pf23 : plainFn Try.prog 23 = true := by kernel_rfl
end Go.Proofs.Ythpjihiikkhcjaa
namespace Go.Sp
open Go.RowKit
section
variable {P : Program} {w : World} {ρ : Operand → Value} {d : Option Tmp} {ty t t' : TypeId} {pos : String} {aft : Array Edge} {g : Option (Nat × Bool)} {x y z : Operand}
theorem r_eqBool {a b : Bool} (_hu : P.underlying t = some .bool) (hx : ρ x = .bool a) (hy : ρ y = .bool b) : (execOp ρ ⟨d, .binOp .eql t x y t', ty, pos, aft, g⟩).run P w = .ok (.value (.bool (a == b))) w :=
  r_bin hx hy rfl (by go_simp)
theorem r_leqI {k : IntKind} {a b : Int} (hx : ρ x = .int k a) (hy : ρ y = .int k b) : (execOp ρ ⟨d, .binOp .leq t x y t', ty, pos, aft, g⟩).run P w = .ok (.value (.bool (decide (a ≤ b)))) w :=
  r_bin hx hy rfl (by simp [binOp, Op.intCmp])
theorem map5 {a b c d e : Operand} {v1 v2 v3 v4 v5 : Value} (h1 : ρ a = v1) (h2 : ρ b = v2) (h3 : ρ c = v3) (h4 : ρ d = v4) (h5 : ρ e = v5) : (#[a, b, c, d, e] : Array Operand).map ρ = #[v1, v2, v3, v4, v5] := by simp [h1, h2, h3, h4, h5]
end
theorem live_1 (nm : List UInt8) (I C E R : Int) : liveM nm I C E R nm I C (E - 1) R = true := by
  simp [liveM]; omega
theorem live_2 (nm nm' : List UInt8) (I C E R v x : Int) (h : E ≤ x) : liveM nm I C E R nm' v C x R = false := by
  unfold liveM
  rw [decide_eq_false (by omega : ¬ x < E)]
  simp
theorem live_3 (nm : List UInt8) (I C E R W m : Int) : liveM nm I C E R nm W C m R = (decide (m < E) && decide (W ≤ I)) := by
  unfold liveM; simp
theorem live_4 (nm : List UInt8) (I C E R ch : Int) : liveM nm I C E R nm I ch (E - 1) R = (ch == C) := by
  unfold liveM
  rw [decide_eq_true (by omega : E - 1 < E), decide_eq_true (Int.le_refl I)]
  simp [Bool.beq_comm]
  try exact Bool.beq_comm ..
theorem live_5 (nm : List UInt8) (I C E R era : Int) : liveM nm I C E R nm I C (E - 1) era = (era == R) := by
  unfold liveM
  rw [decide_eq_true (by omega : E - 1 < E), decide_eq_true (Int.le_refl I)]
  simp [Bool.beq_comm]
  try exact Bool.beq_comm ..
end Go.Sp
namespace Go.Proofs.Ythpjihiikkhcjaa
open Go.RowKit Go.Sp
theorem fld28_8 : fieldOff Try.prog 28 8 = some 22 := by kernel_rfl
theorem pf25 : plainFn Try.prog 25 = true := by kernel_rfl
theorem pf27 : plainFn Try.prog 27 = true := by kernel_rfl
set_option maxRecDepth 100000 in
set_option maxHeartbeats 8000000 in
theorem lives_any (n : Int) (s other : ByteArray) (ch now era rv : Int) (w : World) (hn : -9223372036854775808 ≤ n ∧ n ≤ 9223372036854775807) (hs : s.size ≤ maxLen) (ho : other.size ≤ maxLen) (_hch : -9223372036854775808 ≤ ch ∧ ch ≤ 9223372036854775807) (hnow : -9223372036854775808 ≤ now ∧ now ≤ 9223372036854775807) (_hera : -9223372036854775808 ≤ era ∧ era ≤ 9223372036854775807) (hrv : -9223372036854775808 ≤ rv ∧ rv ≤ 9223372036854775807) :
    Calls Try.prog 6 #[.int .i64 n, .string s, .string other, .int .i64 ch, .int .i64 now, .int .i64 era, .int .i64 rv] w fun e w' => e = .returned (.bool true) ∧ Below w.heap.size w w' := by
  obtain ⟨ls, rfl⟩ : ∃ l : List UInt8, s = ⟨l.toArray⟩ := ⟨s.data.toList, rfl⟩
  obtain ⟨lo, rfl⟩ : ∃ l : List UInt8, other = ⟨l.toArray⟩ := ⟨other.data.toList, rfl⟩
  have hsz : (⟨ls.toArray⟩ : ByteArray).size = ls.length := rfl
  have hoz : (⟨lo.toArray⟩ : ByteArray).size = lo.length := rfl
  clear hs ho
  by_cases hs4 : (40 : Int) < (ls.length : Int)
  · go_enter Try.func6, Try.ntmps6
    try simp only [List.append_eq, List.cons_append, List.nil_append]
    go_wp2_with fail
    refine (known_any _).mono ?_
    rintro _ w1 ⟨rfl, hbw1⟩
    go_wp2
    go_ret
    exact ⟨rfl, hbw1⟩
  by_cases ho4 : (40 : Int) < (lo.length : Int)
  · go_enter Try.func6, Try.ntmps6
    try simp only [List.append_eq, List.cons_append, List.nil_append]
    go_wp2_with fail
    refine (known_any _).mono ?_
    rintro _ w1 ⟨rfl, hbw1⟩
    go_wp2
    go_ret
    exact ⟨rfl, hbw1⟩
  go_enter Try.func6, Try.ntmps6
  try simp only [List.append_eq, List.cons_append, List.nil_append]
  go_wp2_with fail
  refine (known_any _).mono ?_
  rintro _ w1 ⟨rfl, hbw⟩
  go_wp2_with fail
  refine (token_any n ls _ hn (by omega)).mono ?_
  rintro _ w2 ⟨rfl, hb2⟩
  replace hbw := hbw.trans (hb2.mono hbw.size)
  clear hb2 hsz hoz
  obtain ⟨⟨ti0, ti1⟩, ⟨tc0, tc1⟩, ⟨te0, te1⟩, ⟨tr0, tr1⟩⟩ := tk_range n
  generalize tkI n = I at *
  generalize tkC n = C at *
  generalize tkE n = E at *
  generalize tkR n = R at *
  generalize nameB ls = nm at *
  go_wp2_with (with_reducible refine stop_st 15 31 ?_)
  refine Stop.go (wpList_store_blk rfl rfl rfl rfl (Blk.new w2 _ 35) rfl (size35 _ _ _ _ _) (by simp [tokV, Value.oneCell']) ?_)
  intro w3 hT hO3
  have hb3 : Below w2.heap.size w2 w3 := ((Below.refl _ _).alloc (Nat.le_refl _) _).trans (hO3.below (Nat.le_refl _) (by simp))
  have hgt := hbw.size
  replace hbw := hbw.trans (hb3.mono hbw.size)
  clear hO3 hb3
  generalize w2.heap.size = gt at *
  have t0 : w3.cell? ⟨gt, 0, none⟩ = some (.string ⟨nm.toArray⟩) := by rw [hT.cell]; rfl
  have t1 : w3.cell? ⟨gt, 1, none⟩ = some (.int .i64 I) := by rw [hT.cell]; rfl
  go_wp2_with (with_reducible refine stop_st 16 36 ?_)
  clear t0 t1
  refine Stop.go (wpList_store_blk (out := recV 0 ⟨nm.toArray⟩ 0 0 I) rfl rfl rfl rfl (Blk.new w3 _ 28) rfl (size28 _ _ _ _ _) (by simp [recV, Value.oneCell']) ?_)
  intro w4 hR hO4
  have hb4 : Below w3.heap.size w3 w4 := ((Below.refl _ _).alloc (Nat.le_refl _) _).trans (hO4.below (Nat.le_refl _) (by simp))
  have hgr := hbw.size
  replace hbw := hbw.trans (hb4.mono hbw.size)
  replace hT := hT.ext hb4
  clear hO4 hb4
  generalize w3.heap.size = gr at *
  have t0 : w4.cell? ⟨gt, 0, none⟩ = some (.string ⟨nm.toArray⟩) := by rw [hT.cell]; rfl
  have t1 : w4.cell? ⟨gt, 1, none⟩ = some (.int .i64 I) := by rw [hT.cell]; rfl
  have t2 : w4.cell? ⟨gt, 2, none⟩ = some (.int .i64 C) := by rw [hT.cell]; rfl
  have t3 : w4.cell? ⟨gt, 3, none⟩ = some (.int .i64 E) := by rw [hT.cell]; rfl
  have t4 : w4.cell? ⟨gt, 4, none⟩ = some (.int .i64 R) := by rw [hT.cell]; rfl
  have hE1 : -9223372036854775808 ≤ E - 1 ∧ E - 1 ≤ 9223372036854775807 := by omega
  go_wp2_with (with_reducible refine stop_at 37 ?_)
  refine Stop.go (wpList_val rfl (r_loadBlk rfl hT Try.underlying35 rfl (size35 _ _ _ _ _)) ?_)
  go_wp2_with (with_reducible refine stop_at 38 ?_)
  refine Stop.go (wpList_val rfl (r_loadBlk rfl hR Try.underlying28 rfl (size28 _ _ _ _ _)) ?_)
  go_wp2_with fail
  refine (live_any nm I C E R 0 nm 0 0 I C (E - 1) R _).mono ?_
  rintro _ w5 ⟨rfl, hb⟩
  rw [live_1]
  replace hT := hT.ext hb
  replace hR := hR.ext hb
  replace hbw := hbw.trans (hb.mono hbw.size)
  clear hb t0 t1 t2 t3 t4
  have t0 : w5.cell? ⟨gt, 0, none⟩ = some (.string ⟨nm.toArray⟩) := by rw [hT.cell]; rfl
  have t1 : w5.cell? ⟨gt, 1, none⟩ = some (.int .i64 I) := by rw [hT.cell]; rfl
  have t2 : w5.cell? ⟨gt, 2, none⟩ = some (.int .i64 C) := by rw [hT.cell]; rfl
  have t3 : w5.cell? ⟨gt, 3, none⟩ = some (.int .i64 E) := by rw [hT.cell]; rfl
  have t4 : w5.cell? ⟨gt, 4, none⟩ = some (.int .i64 R) := by rw [hT.cell]; rfl
  go_wp2_with (with_reducible refine stop_at 49 ?_)
  refine Stop.go (wpList_valw (by kernel_rfl) (r_loadBlk rfl hT Try.underlying35 rfl (size35 _ _ _ _ _)) ?_)
  go_wp2_with (with_reducible refine stop_at 50 ?_)
  refine Stop.go (wpList_valw (by kernel_rfl) (r_loadBlk rfl hR Try.underlying28 rfl (size28 _ _ _ _ _)) ?_)
  go_wp2_with fail
  refine (live_any nm I C E R 0 nm 0 0 I C E R _).mono ?_
  rintro _ w6 ⟨rfl, hb⟩
  rw [live_2 nm nm I C E R I E (Int.le_refl _)]
  replace hT := hT.ext hb
  replace hR := hR.ext hb
  replace hbw := hbw.trans (hb.mono hbw.size)
  clear hb t0 t1 t2 t3 t4
  have t0 : w6.cell? ⟨gt, 0, none⟩ = some (.string ⟨nm.toArray⟩) := by rw [hT.cell]; rfl
  have t1 : w6.cell? ⟨gt, 1, none⟩ = some (.int .i64 I) := by rw [hT.cell]; rfl
  have t2 : w6.cell? ⟨gt, 2, none⟩ = some (.int .i64 C) := by rw [hT.cell]; rfl
  have t3 : w6.cell? ⟨gt, 3, none⟩ = some (.int .i64 E) := by rw [hT.cell]; rfl
  have t4 : w6.cell? ⟨gt, 4, none⟩ = some (.int .i64 R) := by rw [hT.cell]; rfl
  go_wp2_with (with_reducible refine stop_at 60 ?_)
  refine Stop.go (wpList_valw (by kernel_rfl) (r_loadBlk rfl hT Try.underlying35 rfl (size35 _ _ _ _ _)) ?_)
  go_wp2_with (with_reducible refine stop_at 61 ?_)
  refine Stop.go (wpList_valw (by kernel_rfl) (r_loadBlk rfl hR Try.underlying28 rfl (size28 _ _ _ _ _)) ?_)
  obtain ⟨mx, hmx⟩ : ∃ x, x = max E now := ⟨_, rfl⟩
  have hmE : E ≤ mx := by omega
  go_wp2_with (with_reducible refine stop_at 67 ?_)
  refine Stop.go (wpList_valw (by kernel_rfl) (r_max rfl rfl hmx.symm) ?_)
  clear hmx
  go_wp2_with fail
  refine (live_any nm I C E R 0 nm 0 0 I C mx R _).mono ?_
  rintro _ w7 ⟨rfl, hb⟩
  rw [live_2 nm nm I C E R I mx hmE]
  replace hT := hT.ext hb
  replace hR := hR.ext hb
  replace hbw := hbw.trans (hb.mono hbw.size)
  clear hb t0 t1 t2 t3 t4
  have t0 : w7.cell? ⟨gt, 0, none⟩ = some (.string ⟨nm.toArray⟩) := by rw [hT.cell]; rfl
  have t1 : w7.cell? ⟨gt, 1, none⟩ = some (.int .i64 I) := by rw [hT.cell]; rfl
  have t2 : w7.cell? ⟨gt, 2, none⟩ = some (.int .i64 C) := by rw [hT.cell]; rfl
  have t3 : w7.cell? ⟨gt, 3, none⟩ = some (.int .i64 E) := by rw [hT.cell]; rfl
  have t4 : w7.cell? ⟨gt, 4, none⟩ = some (.int .i64 R) := by rw [hT.cell]; rfl
  have hgr7 := hR.lt
  have hgt7 := hT.lt
  clear t0 t1 t2 t3 t4
  go_wp2_with (with_reducible refine stop_at 72 ?_)
  refine Stop.go (wpList_val rfl (r_loadBlk rfl hR Try.underlying28 rfl (size28 _ _ _ _ _)) ?_)
  go_wp2_with (with_reducible refine stop_st 17 72 ?_)
  refine Stop.go (wpList_store_blk rfl rfl rfl rfl (Blk.new w7 _ 28) rfl (size28 _ _ _ _ _) (by simp [recV, Value.oneCell']) ?_)
  intro w8 hW hO8
  have hb8 : Below w7.heap.size w7 w8 := ((Below.refl _ _).alloc (Nat.le_refl _) _).trans (hO8.below (Nat.le_refl _) (by simp))
  have hgw := hbw.size
  replace hbw := hbw.trans (hb8.mono hbw.size)
  replace hT := hT.ext hb8
  replace hR := hR.ext hb8
  clear hO8 hb8
  generalize w7.heap.size = gw at *
  have hne1 : gt ≠ gw := by omega
  have hne2 : gr ≠ gw := by omega
  go_wp2_with fail
  refine (within_any rv 1125899906842624 hrv (by decide) (by decide) _).mono ?_
  rintro _ wx ⟨rfl, rfl⟩
  obtain ⟨W, hWv⟩ : ∃ x, x = rv % 1125899906842624 := ⟨_, rfl⟩
  rw [← hWv]
  clear hWv
  have c22 : w8.cell? ⟨gw, 22, none⟩ = some (.int .i64 I) := by rw [hW.cell]; rfl
  have f22 : w8.frozen? ⟨gw, 22, none⟩ = false := hW.frozen 22
  have hW9 : Blk (w8.setCell ⟨gw, 22, none⟩ (.int .i64 W)) gw (recV 0 ⟨nm.toArray⟩ 0 0 W) 28 := hW.set 22 _
  have hT9 := hT.setOther ⟨gw, 22, none⟩ (.int .i64 W) hne1
  have hR9 := hR.setOther ⟨gw, 22, none⟩ (.int .i64 W) hne2
  have hbw9 := hbw.setCell (p := ⟨gw, 22, none⟩) hgw (.int .i64 W)
  clear hW hT hR hbw
  go_wp2_with fail
  clear c22 f22
  generalize w8.setCell ⟨gw, 22, none⟩ (.int .i64 W) = w9 at *
  refine (within_any now 6000 hnow (by decide) (by decide) _).mono ?_
  rintro _ wx ⟨rfl, rfl⟩
  obtain ⟨m, hm⟩ : ∃ x, x = now % 6000 := ⟨_, rfl⟩
  rw [← hm]
  clear hm
  go_wp2_with fail
  have t1 : w9.cell? ⟨gt, 0 + 1, none⟩ = some (.int .i64 I) := by rw [hT9.cell]; rfl
  have t2 : w9.cell? ⟨gt, 0 + 2, none⟩ = some (.int .i64 C) := by rw [hT9.cell]; rfl
  have t3 : w9.cell? ⟨gt, 0 + 3, none⟩ = some (.int .i64 E) := by rw [hT9.cell]; rfl
  have t4 : w9.cell? ⟨gt, 0 + 4, none⟩ = some (.int .i64 R) := by rw [hT9.cell]; rfl
  have v22 : w9.cell? ⟨gw, 0 + 22, none⟩ = some (.int .i64 W) := by rw [hW9.cell]; rfl
  have hL3 := Lib.hid (live_3 nm I C E R W m)
  by_cases hWI : W ≤ I
  · refine wp_region_GX 5 (fun ix => (lookL [.agg (tokV nm I C E R), .agg (recV 0 ⟨nm.toArray⟩ 0 0 W), .pointer (some ⟨gt, 0 + 2, none⟩), .int .i64 C, .int .i64 m, .pointer (some ⟨gt, 0 + 4, none⟩), .int .i64 R, .bool (decide (m < E)), .pointer (some ⟨gt, 0 + 1, none⟩), .int .i64 I, .pointer (some ⟨gw, 0 + 22, none⟩), .int .i64 W, .bool true, .bool true, .int .i64 m, .pointer (some ⟨gt, 0 + 3, none⟩), .int .i64 E, .bool (decide (m < E)), .bool (decide (m < E)), .bool false] ix).getD undef) (by kernel_rfl) (by kernel_rfl) (by kernel_rfl) ?_
    refine GE_ex (v := .agg (tokV nm I C E R)) (ExtM.refl _ _) rfl rfl rfl (fun u hu hf => r_loadBlk (rho_base rfl rfl) (hT9.extM (bt := 5) (by decide) hu) Try.underlying35 rfl (size35 _ _ _ _ _)) ?_
    refine GE_ex (v := .agg (recV 0 ⟨nm.toArray⟩ 0 0 W)) (ExtM.refl _ _) rfl rfl rfl (fun u hu hf => r_loadBlk (rho_base rfl rfl) (hW9.extM (bt := 5) (by decide) hu) Try.underlying28 rfl (size28 _ _ _ _ _)) ?_
    refine GE_ex (v := .pointer (some ⟨gt, 0 + 2, none⟩)) (ExtM.refl _ _) rfl rfl rfl (fun u hu hf => r_fieldAddr (rho_base rfl rfl) fld35_2) ?_
    refine GE_ex (v := .int .i64 C) (ExtM.refl _ _) rfl rfl rfl (fun u hu hf => r_load (rho_env rfl) on3 (hu.cell t2)) ?_
    refine GE_ex (v := .int .i64 m) (ExtM.refl _ _) rfl rfl rfl (fun u hu hf => r_move (rho_base rfl rfl)) ?_
    refine GE_ex (v := .pointer (some ⟨gt, 0 + 4, none⟩)) (ExtM.refl _ _) rfl rfl rfl (fun u hu hf => r_fieldAddr (rho_base rfl rfl) fld35_4) ?_
    refine GE_ex (v := .int .i64 R) (ExtM.refl _ _) rfl rfl rfl (fun u hu hf => r_load (rho_env rfl) on3 (hu.cell t4)) ?_
    refine GE_call (v := .bool (decide (m < E))) (f := 25) (args := #[.agg (tokV nm I C E R), .agg (recV 0 ⟨nm.toArray⟩ 0 0 W), .int .i64 C, .int .i64 m, .int .i64 R]) rfl rfl rfl (fun u => r_call pf25 (map5 (rho_env rfl) (rho_env rfl) (rho_env rfl) (rho_env rfl) (rho_env rfl)) rfl) (fun u hu hf => ?_) ?_
    · refine (live_any nm I C E R 0 nm 0 0 W C m R u).mono ?_
      rintro _ u' ⟨rfl, hb⟩
      exact ⟨by rw [hL3.out, decide_eq_true hWI, Bool.and_true], ExtM.of hb hu.below.size⟩
    refine GE_ex (v := .pointer (some ⟨gt, 0 + 1, none⟩)) (ExtM.refl _ _) rfl rfl rfl (fun u hu hf => r_fieldAddr (rho_base rfl rfl) fld35_1) ?_
    refine GE_ex (v := .int .i64 I) (ExtM.refl _ _) rfl rfl rfl (fun u hu hf => r_load (rho_env rfl) on3 (hu.cell t1)) ?_
    refine GE_ex (v := .pointer (some ⟨gw, 0 + 22, none⟩)) (ExtM.refl _ _) rfl rfl rfl (fun u hu hf => r_fieldAddr (rho_base rfl rfl) fld28_8) ?_
    refine GE_ex (v := .int .i64 W) (ExtM.refl _ _) rfl rfl rfl (fun u hu hf => r_load (rho_env rfl) on3 (hu.cell v22)) ?_
    refine GE_ex (v := .bool true) (ExtM.refl _ _) rfl rfl rfl (fun u hu hf => (r_geqI (rho_env rfl) (rho_env rfl)).trans (by rw [decide_eq_true hWI])) ?_
    refine GE_ex (v := .bool true) (ExtM.refl _ _) rfl rfl rfl (fun u hu hf => r_move (rho_env rfl)) ?_
    refine GE_ex (v := .int .i64 m) (ExtM.refl _ _) rfl rfl rfl (fun u hu hf => r_move (rho_base rfl rfl)) ?_
    refine GE_ex (v := .pointer (some ⟨gt, 0 + 3, none⟩)) (ExtM.refl _ _) rfl rfl rfl (fun u hu hf => r_fieldAddr (rho_base rfl rfl) fld35_3) ?_
    refine GE_ex (v := .int .i64 E) (ExtM.refl _ _) rfl rfl rfl (fun u hu hf => r_load (rho_env rfl) on3 (hu.cell t3)) ?_
    refine GE_ex (v := .bool (decide (m < E))) (ExtM.refl _ _) rfl rfl rfl (fun u hu hf => (r_lssI (rho_env rfl) (rho_env rfl))) ?_
    refine GE_ex (v := .bool (decide (m < E))) (ExtM.refl _ _) rfl rfl rfl (fun u hu hf => r_pickT (rho_env rfl) (rho_env rfl)) ?_
    refine GE_ex (v := .bool false) (ExtM.refl _ _) rfl rfl rfl (fun u hu hf => (r_neqB Try.underlying4 (rho_env rfl) (rho_env rfl)).trans (by simp)) ?_
    refine GE_nil fun wa hu hf => ?_
    rw [withEnv_norm (rfl : setsL _ 0 _ = [_, _, _, _, _, _, _, _, _, _, _, _, _, _, _, _, _, _, _, _, _, _, _, _, _, _, _, _, _, _, _, _, _, _, _, _, _, _, _, _, _, _, _, _, _, _, _, _, _, _, _, _, _, _, _, _, _, _, _, _, _, _, _, _, _, _, _, _, _, _, _, _, _, _, _, _, _, _, _, _, _, _, _, _, _, _, _, _, _, _, _, _, _, _, _, _, _, _, _, _, _, _, _, _, _, _, _, _, _, _, _, _, _, _, _, _, _, _, _, _, _, _, _, _, _, _, _, _, _, _, _, _, _, _, _, _, _, _, _, _, _, _, _, _, _, _])]
    clear hf
    have hT10 := hT9.extM (bt := 5) (by decide) hu
    have hR10 := hR9.extM (bt := 5) (by decide) hu
    have hW10 := hW9.extM (bt := 5) (by decide) hu
    have hbw10 := hbw9.trans (hu.below.mono hbw9.size)
    clear hu t1 t2 t3 t4 v22 hT9 hR9 hW9 hbw9 hL3
    go_wp2_with fail
    refine (name_any lo _ (by omega)).mono ?_
    rintro _ w11 ⟨rfl, hb11⟩
    replace hT10 := hT10.ext hb11
    replace hR10 := hR10.ext hb11
    replace hW10 := hW10.ext hb11
    replace hbw10 := hbw10.trans (hb11.mono hbw10.size)
    clear hb11
    generalize nameB lo = nm2 at *
    have c1 : w11.cell? ⟨gw, 1, none⟩ = some (.string ⟨nm.toArray⟩) := by rw [hW10.cell]; rfl
    have f1 : w11.frozen? ⟨gw, 1, none⟩ = false := hW10.frozen 1
    have hW12 : Blk (w11.setCell ⟨gw, 1, none⟩ (.string ⟨nm2.toArray⟩)) gw (recV 0 ⟨nm2.toArray⟩ 0 0 W) 28 := hW10.set 1 _
    have hT12 := hT10.setOther ⟨gw, 1, none⟩ (.string ⟨nm2.toArray⟩) hne1
    have hR12 := hR10.setOther ⟨gw, 1, none⟩ (.string ⟨nm2.toArray⟩) hne2
    have hbw12 := hbw10.setCell (p := ⟨gw, 1, none⟩) hgw (.string ⟨nm2.toArray⟩)
    clear hW10 hT10 hR10 hbw10
    go_wp2_with fail
    clear c1 f1
    generalize w11.setCell ⟨gw, 1, none⟩ (.string ⟨nm2.toArray⟩) = w12 at *
    have t2 : w12.cell? ⟨gt, 0 + 2, none⟩ = some (.int .i64 C) := by rw [hT12.cell]; rfl
    have t3 : w12.cell? ⟨gt, 0 + 3, none⟩ = some (.int .i64 E) := by rw [hT12.cell]; rfl
    have t4 : w12.cell? ⟨gt, 0 + 4, none⟩ = some (.int .i64 R) := by rw [hT12.cell]; rfl
    obtain ⟨b1, hb1⟩ : ∃ b, b = liveM nm I C E R nm2 W ch m era := ⟨_, rfl⟩
    have HB1 := Lib.hid hb1
    have HL4 := Lib.hid (live_4 nm I C E R ch)
    have HL5 := Lib.hid (live_5 nm I C E R era)
    clear hb1
    refine wp_region_GX 5 (fun ix => (lookL [.agg (tokV nm I C E R), .agg (recV 0 ⟨nm2.toArray⟩ 0 0 W), .int .i64 ch, .int .i64 m, .int .i64 era, .bool b1, .agg (tokV nm I C E R), .agg (recV 0 ⟨nm2.toArray⟩ 0 0 W), .int .i64 ch, .int .i64 m, .int .i64 era, .bool b1, .bool true, .bool true, .agg (tokV nm I C E R), .agg (recV 0 ⟨nm.toArray⟩ 0 0 I), .int .i64 ch, .pointer (some ⟨gt, 0 + 3, none⟩), .int .i64 E, .int .i64 (E - 1), .pointer (some ⟨gt, 0 + 4, none⟩), .int .i64 R, .bool (ch == C), .int .i64 ch, .pointer (some ⟨gt, 0 + 2, none⟩), .int .i64 C, .bool (ch == C), .bool true, .bool true, .bool true, .agg (tokV nm I C E R), .agg (recV 0 ⟨nm.toArray⟩ 0 0 I), .pointer (some ⟨gt, 0 + 2, none⟩), .int .i64 C, .pointer (some ⟨gt, 0 + 3, none⟩), .int .i64 E, .int .i64 (E - 1), .int .i64 era, .bool (era == R), .int .i64 era, .pointer (some ⟨gt, 0 + 4, none⟩), .int .i64 R, .bool (era == R), .bool true, .bool true, .bool true] ix).getD undef) (by kernel_rfl) (by kernel_rfl) (by kernel_rfl) ?_
    refine GE_ex (v := .agg (tokV nm I C E R)) (ExtM.refl _ _) rfl rfl rfl (fun u hu hf => r_loadBlk (rho_base rfl rfl) (hT12.extM (bt := 5) (by decide) hu) Try.underlying35 rfl (size35 _ _ _ _ _)) ?_
    refine GE_ex (v := .agg (recV 0 ⟨nm2.toArray⟩ 0 0 W)) (ExtM.refl _ _) rfl rfl rfl (fun u hu hf => r_loadBlk (rho_base rfl rfl) (hW12.extM (bt := 5) (by decide) hu) Try.underlying28 rfl (size28 _ _ _ _ _)) ?_
    refine GE_ex (v := .int .i64 ch) (ExtM.refl _ _) rfl rfl rfl (fun u hu hf => r_move (rho_base rfl rfl)) ?_
    refine GE_ex (v := .int .i64 m) (ExtM.refl _ _) rfl rfl rfl (fun u hu hf => r_move (rho_base rfl rfl)) ?_
    refine GE_ex (v := .int .i64 era) (ExtM.refl _ _) rfl rfl rfl (fun u hu hf => r_move (rho_base rfl rfl)) ?_
    refine GE_call (v := .bool b1) (f := 25) (args := #[.agg (tokV nm I C E R), .agg (recV 0 ⟨nm2.toArray⟩ 0 0 W), .int .i64 ch, .int .i64 m, .int .i64 era]) rfl rfl rfl (fun u => r_call pf25 (map5 (rho_env rfl) (rho_env rfl) (rho_env rfl) (rho_env rfl) (rho_env rfl)) rfl) (fun u hu hf => ?_) ?_
    · refine (live_any nm I C E R 0 nm2 0 0 W ch m era u).mono ?_
      rintro _ u' ⟨rfl, hb⟩
      exact ⟨by rw [HB1.out], ExtM.of hb hu.below.size⟩
    refine GE_ex (v := .agg (tokV nm I C E R)) (ExtM.refl _ _) rfl rfl rfl (fun u hu hf => r_loadBlk (rho_base rfl rfl) (hT12.extM (bt := 5) (by decide) hu) Try.underlying35 rfl (size35 _ _ _ _ _)) ?_
    refine GE_ex (v := .agg (recV 0 ⟨nm2.toArray⟩ 0 0 W)) (ExtM.refl _ _) rfl rfl rfl (fun u hu hf => r_loadBlk (rho_base rfl rfl) (hW12.extM (bt := 5) (by decide) hu) Try.underlying28 rfl (size28 _ _ _ _ _)) ?_
    refine GE_ex (v := .int .i64 ch) (ExtM.refl _ _) rfl rfl rfl (fun u hu hf => r_move (rho_base rfl rfl)) ?_
    refine GE_ex (v := .int .i64 m) (ExtM.refl _ _) rfl rfl rfl (fun u hu hf => r_move (rho_base rfl rfl)) ?_
    refine GE_ex (v := .int .i64 era) (ExtM.refl _ _) rfl rfl rfl (fun u hu hf => r_move (rho_base rfl rfl)) ?_
    refine GE_call (v := .bool b1) (f := 27) (args := #[.agg (tokV nm I C E R), .agg (recV 0 ⟨nm2.toArray⟩ 0 0 W), .int .i64 ch, .int .i64 m, .int .i64 era]) rfl rfl rfl (fun u => r_call pf27 (map5 (rho_env rfl) (rho_env rfl) (rho_env rfl) (rho_env rfl) (rho_env rfl)) rfl) (fun u hu hf => ?_) ?_
    · refine (rlive_any nm I C E R 0 nm2 0 0 W ch m era u).mono ?_
      rintro _ u' ⟨rfl, hb⟩
      exact ⟨by rw [HB1.out], ExtM.of hb hu.below.size⟩
    refine GE_ex (v := .bool true) (ExtM.refl _ _) rfl rfl rfl (fun u hu hf => (r_eqBool Try.underlying4 (rho_env rfl) (rho_env rfl)).trans (by simp)) ?_
    refine GE_ex (v := .bool true) (ExtM.refl _ _) rfl rfl rfl (fun u hu hf => r_move (rho_env rfl)) ?_
    refine GE_ex (v := .agg (tokV nm I C E R)) (ExtM.refl _ _) rfl rfl rfl (fun u hu hf => r_loadBlk (rho_base rfl rfl) (hT12.extM (bt := 5) (by decide) hu) Try.underlying35 rfl (size35 _ _ _ _ _)) ?_
    refine GE_ex (v := .agg (recV 0 ⟨nm.toArray⟩ 0 0 I)) (ExtM.refl _ _) rfl rfl rfl (fun u hu hf => r_loadBlk (rho_base rfl rfl) (hR12.extM (bt := 5) (by decide) hu) Try.underlying28 rfl (size28 _ _ _ _ _)) ?_
    refine GE_ex (v := .int .i64 ch) (ExtM.refl _ _) rfl rfl rfl (fun u hu hf => r_move (rho_base rfl rfl)) ?_
    refine GE_ex (v := .pointer (some ⟨gt, 0 + 3, none⟩)) (ExtM.refl _ _) rfl rfl rfl (fun u hu hf => r_fieldAddr (rho_base rfl rfl) fld35_3) ?_
    refine GE_ex (v := .int .i64 E) (ExtM.refl _ _) rfl rfl rfl (fun u hu hf => r_load (rho_env rfl) on3 (hu.cell t3)) ?_
    refine GE_ex (v := .int .i64 (E - 1)) (ExtM.refl _ _) rfl rfl rfl (fun u hu hf => r_subI (rho_env rfl) rho_const ⟨rfl, by omega⟩) ?_
    refine GE_ex (v := .pointer (some ⟨gt, 0 + 4, none⟩)) (ExtM.refl _ _) rfl rfl rfl (fun u hu hf => r_fieldAddr (rho_base rfl rfl) fld35_4) ?_
    refine GE_ex (v := .int .i64 R) (ExtM.refl _ _) rfl rfl rfl (fun u hu hf => r_load (rho_env rfl) on3 (hu.cell t4)) ?_
    refine GE_call (v := .bool (ch == C)) (f := 25) (args := #[.agg (tokV nm I C E R), .agg (recV 0 ⟨nm.toArray⟩ 0 0 I), .int .i64 ch, .int .i64 (E - 1), .int .i64 R]) rfl rfl rfl (fun u => r_call pf25 (map5 (rho_env rfl) (rho_env rfl) (rho_env rfl) (rho_env rfl) (rho_env rfl)) rfl) (fun u hu hf => ?_) ?_
    · refine (live_any nm I C E R 0 nm 0 0 I ch (E - 1) R u).mono ?_
      rintro _ u' ⟨rfl, hb⟩
      exact ⟨by rw [HL4.out], ExtM.of hb hu.below.size⟩
    refine GE_ex (v := .int .i64 ch) (ExtM.refl _ _) rfl rfl rfl (fun u hu hf => r_move (rho_base rfl rfl)) ?_
    refine GE_ex (v := .pointer (some ⟨gt, 0 + 2, none⟩)) (ExtM.refl _ _) rfl rfl rfl (fun u hu hf => r_fieldAddr (rho_base rfl rfl) fld35_2) ?_
    refine GE_ex (v := .int .i64 C) (ExtM.refl _ _) rfl rfl rfl (fun u hu hf => r_load (rho_env rfl) on3 (hu.cell t2)) ?_
    refine GE_ex (v := .bool (ch == C)) (ExtM.refl _ _) rfl rfl rfl (fun u hu hf => (r_eqlI (rho_env rfl) (rho_env rfl))) ?_
    refine GE_ex (v := .bool true) (ExtM.refl _ _) rfl rfl rfl (fun u hu hf => (r_eqBool Try.underlying4 (rho_env rfl) (rho_env rfl)).trans (by simp)) ?_
    refine GE_ex (v := .bool true) (ExtM.refl _ _) rfl rfl rfl (fun u hu hf => r_pickT (rho_env rfl) (rho_env rfl)) ?_
    refine GE_ex (v := .bool true) (ExtM.refl _ _) rfl rfl rfl (fun u hu hf => r_move (rho_env rfl)) ?_
    refine GE_ex (v := .agg (tokV nm I C E R)) (ExtM.refl _ _) rfl rfl rfl (fun u hu hf => r_loadBlk (rho_base rfl rfl) (hT12.extM (bt := 5) (by decide) hu) Try.underlying35 rfl (size35 _ _ _ _ _)) ?_
    refine GE_ex (v := .agg (recV 0 ⟨nm.toArray⟩ 0 0 I)) (ExtM.refl _ _) rfl rfl rfl (fun u hu hf => r_loadBlk (rho_base rfl rfl) (hR12.extM (bt := 5) (by decide) hu) Try.underlying28 rfl (size28 _ _ _ _ _)) ?_
    refine GE_ex (v := .pointer (some ⟨gt, 0 + 2, none⟩)) (ExtM.refl _ _) rfl rfl rfl (fun u hu hf => r_fieldAddr (rho_base rfl rfl) fld35_2) ?_
    refine GE_ex (v := .int .i64 C) (ExtM.refl _ _) rfl rfl rfl (fun u hu hf => r_load (rho_env rfl) on3 (hu.cell t2)) ?_
    refine GE_ex (v := .pointer (some ⟨gt, 0 + 3, none⟩)) (ExtM.refl _ _) rfl rfl rfl (fun u hu hf => r_fieldAddr (rho_base rfl rfl) fld35_3) ?_
    refine GE_ex (v := .int .i64 E) (ExtM.refl _ _) rfl rfl rfl (fun u hu hf => r_load (rho_env rfl) on3 (hu.cell t3)) ?_
    refine GE_ex (v := .int .i64 (E - 1)) (ExtM.refl _ _) rfl rfl rfl (fun u hu hf => r_subI (rho_env rfl) rho_const ⟨rfl, by omega⟩) ?_
    refine GE_ex (v := .int .i64 era) (ExtM.refl _ _) rfl rfl rfl (fun u hu hf => r_move (rho_base rfl rfl)) ?_
    refine GE_call (v := .bool (era == R)) (f := 25) (args := #[.agg (tokV nm I C E R), .agg (recV 0 ⟨nm.toArray⟩ 0 0 I), .int .i64 C, .int .i64 (E - 1), .int .i64 era]) rfl rfl rfl (fun u => r_call pf25 (map5 (rho_env rfl) (rho_env rfl) (rho_env rfl) (rho_env rfl) (rho_env rfl)) rfl) (fun u hu hf => ?_) ?_
    · refine (live_any nm I C E R 0 nm 0 0 I C (E - 1) era u).mono ?_
      rintro _ u' ⟨rfl, hb⟩
      exact ⟨by rw [HL5.out], ExtM.of hb hu.below.size⟩
    refine GE_ex (v := .int .i64 era) (ExtM.refl _ _) rfl rfl rfl (fun u hu hf => r_move (rho_base rfl rfl)) ?_
    refine GE_ex (v := .pointer (some ⟨gt, 0 + 4, none⟩)) (ExtM.refl _ _) rfl rfl rfl (fun u hu hf => r_fieldAddr (rho_base rfl rfl) fld35_4) ?_
    refine GE_ex (v := .int .i64 R) (ExtM.refl _ _) rfl rfl rfl (fun u hu hf => r_load (rho_env rfl) on3 (hu.cell t4)) ?_
    refine GE_ex (v := .bool (era == R)) (ExtM.refl _ _) rfl rfl rfl (fun u hu hf => (r_eqlI (rho_env rfl) (rho_env rfl))) ?_
    refine GE_ex (v := .bool true) (ExtM.refl _ _) rfl rfl rfl (fun u hu hf => (r_eqBool Try.underlying4 (rho_env rfl) (rho_env rfl)).trans (by simp)) ?_
    refine GE_ex (v := .bool true) (ExtM.refl _ _) rfl rfl rfl (fun u hu hf => r_pickT (rho_env rfl) (rho_env rfl)) ?_
    refine GE_ex (v := .bool true) (ExtM.refl _ _) rfl rfl rfl (fun u hu hf => r_assign (rho_env rfl)) ?_
    refine GE_nil fun wb hu hf => ?_
    rw [withEnv_norm (rfl : setsL _ 0 _ = [_, _, _, _, _, _, _, _, _, _, _, _, _, _, _, _, _, _, _, _, _, _, _, _, _, _, _, _, _, _, _, _, _, _, _, _, _, _, _, _, _, _, _, _, _, _, _, _, _, _, _, _, _, _, _, _, _, _, _, _, _, _, _, _, _, _, _, _, _, _, _, _, _, _, _, _, _, _, _, _, _, _, _, _, _, _, _, _, _, _, _, _, _, _, _, _, _, _, _, _, _, _, _, _, _, _, _, _, _, _, _, _, _, _, _, _, _, _, _, _, _, _, _, _, _, _, _, _, _, _, _, _, _, _, _, _, _, _, _, _, _, _, _, _, _, _])]
    clear hf
    have hbw13 := hbw12.trans (hu.below.mono hbw12.size)
    clear hu
    go_wp2
    go_ret
    exact ⟨rfl, hbw13⟩
  · refine wp_region_GX 5 (fun ix => (lookL [.agg (tokV nm I C E R), .agg (recV 0 ⟨nm.toArray⟩ 0 0 W), .pointer (some ⟨gt, 0 + 2, none⟩), .int .i64 C, .int .i64 m, .pointer (some ⟨gt, 0 + 4, none⟩), .int .i64 R, .bool false, .pointer (some ⟨gt, 0 + 1, none⟩), .int .i64 I, .pointer (some ⟨gw, 0 + 22, none⟩), .int .i64 W, .bool false, .bool false, undef, undef, undef, undef, .bool false, .bool false] ix).getD undef) (by kernel_rfl) (by kernel_rfl) (by kernel_rfl) ?_
    refine GE_ex (v := .agg (tokV nm I C E R)) (ExtM.refl _ _) rfl rfl rfl (fun u hu hf => r_loadBlk (rho_base rfl rfl) (hT9.extM (bt := 5) (by decide) hu) Try.underlying35 rfl (size35 _ _ _ _ _)) ?_
    refine GE_ex (v := .agg (recV 0 ⟨nm.toArray⟩ 0 0 W)) (ExtM.refl _ _) rfl rfl rfl (fun u hu hf => r_loadBlk (rho_base rfl rfl) (hW9.extM (bt := 5) (by decide) hu) Try.underlying28 rfl (size28 _ _ _ _ _)) ?_
    refine GE_ex (v := .pointer (some ⟨gt, 0 + 2, none⟩)) (ExtM.refl _ _) rfl rfl rfl (fun u hu hf => r_fieldAddr (rho_base rfl rfl) fld35_2) ?_
    refine GE_ex (v := .int .i64 C) (ExtM.refl _ _) rfl rfl rfl (fun u hu hf => r_load (rho_env rfl) on3 (hu.cell t2)) ?_
    refine GE_ex (v := .int .i64 m) (ExtM.refl _ _) rfl rfl rfl (fun u hu hf => r_move (rho_base rfl rfl)) ?_
    refine GE_ex (v := .pointer (some ⟨gt, 0 + 4, none⟩)) (ExtM.refl _ _) rfl rfl rfl (fun u hu hf => r_fieldAddr (rho_base rfl rfl) fld35_4) ?_
    refine GE_ex (v := .int .i64 R) (ExtM.refl _ _) rfl rfl rfl (fun u hu hf => r_load (rho_env rfl) on3 (hu.cell t4)) ?_
    refine GE_call (v := .bool false) (f := 25) (args := #[.agg (tokV nm I C E R), .agg (recV 0 ⟨nm.toArray⟩ 0 0 W), .int .i64 C, .int .i64 m, .int .i64 R]) rfl rfl rfl (fun u => r_call pf25 (map5 (rho_env rfl) (rho_env rfl) (rho_env rfl) (rho_env rfl) (rho_env rfl)) rfl) (fun u hu hf => ?_) ?_
    · refine (live_any nm I C E R 0 nm 0 0 W C m R u).mono ?_
      rintro _ u' ⟨rfl, hb⟩
      exact ⟨by rw [hL3.out, decide_eq_false hWI, Bool.and_false], ExtM.of hb hu.below.size⟩
    refine GE_ex (v := .pointer (some ⟨gt, 0 + 1, none⟩)) (ExtM.refl _ _) rfl rfl rfl (fun u hu hf => r_fieldAddr (rho_base rfl rfl) fld35_1) ?_
    refine GE_ex (v := .int .i64 I) (ExtM.refl _ _) rfl rfl rfl (fun u hu hf => r_load (rho_env rfl) on3 (hu.cell t1)) ?_
    refine GE_ex (v := .pointer (some ⟨gw, 0 + 22, none⟩)) (ExtM.refl _ _) rfl rfl rfl (fun u hu hf => r_fieldAddr (rho_base rfl rfl) fld28_8) ?_
    refine GE_ex (v := .int .i64 W) (ExtM.refl _ _) rfl rfl rfl (fun u hu hf => r_load (rho_env rfl) on3 (hu.cell v22)) ?_
    refine GE_ex (v := .bool false) (ExtM.refl _ _) rfl rfl rfl (fun u hu hf => (r_geqI (rho_env rfl) (rho_env rfl)).trans (by rw [decide_eq_false hWI])) ?_
    refine GE_ex (v := .bool false) (ExtM.refl _ _) rfl rfl rfl (fun u hu hf => r_move (rho_env rfl)) ?_
    refine GE_skip rfl rfl rfl ?_
    refine GE_skip rfl rfl rfl ?_
    refine GE_skip rfl rfl rfl ?_
    refine GE_skip rfl rfl rfl ?_
    refine GE_ex (v := .bool false) (ExtM.refl _ _) rfl rfl rfl (fun u hu hf => r_pickF (rho_env rfl) rho_const) ?_
    refine GE_ex (v := .bool false) (ExtM.refl _ _) rfl rfl rfl (fun u hu hf => (r_neqB Try.underlying4 (rho_env rfl) (rho_env rfl)).trans (by simp)) ?_
    refine GE_nil fun wa hu hf => ?_
    rw [withEnv_norm (rfl : setsL _ 0 _ = [_, _, _, _, _, _, _, _, _, _, _, _, _, _, _, _, _, _, _, _, _, _, _, _, _, _, _, _, _, _, _, _, _, _, _, _, _, _, _, _, _, _, _, _, _, _, _, _, _, _, _, _, _, _, _, _, _, _, _, _, _, _, _, _, _, _, _, _, _, _, _, _, _, _, _, _, _, _, _, _, _, _, _, _, _, _, _, _, _, _, _, _, _, _, _, _, _, _, _, _, _, _, _, _, _, _, _, _, _, _, _, _, _, _, _, _, _, _, _, _, _, _, _, _, _, _, _, _, _, _, _, _, _, _, _, _, _, _, _, _, _, _, _, _, _, _])]
    clear hf
    have hT10 := hT9.extM (bt := 5) (by decide) hu
    have hR10 := hR9.extM (bt := 5) (by decide) hu
    have hW10 := hW9.extM (bt := 5) (by decide) hu
    have hbw10 := hbw9.trans (hu.below.mono hbw9.size)
    clear hu t1 t2 t3 t4 v22 hT9 hR9 hW9 hbw9 hL3
    go_wp2_with fail
    refine (name_any lo _ (by omega)).mono ?_
    rintro _ w11 ⟨rfl, hb11⟩
    replace hT10 := hT10.ext hb11
    replace hR10 := hR10.ext hb11
    replace hW10 := hW10.ext hb11
    replace hbw10 := hbw10.trans (hb11.mono hbw10.size)
    clear hb11
    generalize nameB lo = nm2 at *
    have c1 : w11.cell? ⟨gw, 1, none⟩ = some (.string ⟨nm.toArray⟩) := by rw [hW10.cell]; rfl
    have f1 : w11.frozen? ⟨gw, 1, none⟩ = false := hW10.frozen 1
    have hW12 : Blk (w11.setCell ⟨gw, 1, none⟩ (.string ⟨nm2.toArray⟩)) gw (recV 0 ⟨nm2.toArray⟩ 0 0 W) 28 := hW10.set 1 _
    have hT12 := hT10.setOther ⟨gw, 1, none⟩ (.string ⟨nm2.toArray⟩) hne1
    have hR12 := hR10.setOther ⟨gw, 1, none⟩ (.string ⟨nm2.toArray⟩) hne2
    have hbw12 := hbw10.setCell (p := ⟨gw, 1, none⟩) hgw (.string ⟨nm2.toArray⟩)
    clear hW10 hT10 hR10 hbw10
    go_wp2_with fail
    clear c1 f1
    generalize w11.setCell ⟨gw, 1, none⟩ (.string ⟨nm2.toArray⟩) = w12 at *
    have t2 : w12.cell? ⟨gt, 0 + 2, none⟩ = some (.int .i64 C) := by rw [hT12.cell]; rfl
    have t3 : w12.cell? ⟨gt, 0 + 3, none⟩ = some (.int .i64 E) := by rw [hT12.cell]; rfl
    have t4 : w12.cell? ⟨gt, 0 + 4, none⟩ = some (.int .i64 R) := by rw [hT12.cell]; rfl
    obtain ⟨b1, hb1⟩ : ∃ b, b = liveM nm I C E R nm2 W ch m era := ⟨_, rfl⟩
    have HB1 := Lib.hid hb1
    have HL4 := Lib.hid (live_4 nm I C E R ch)
    have HL5 := Lib.hid (live_5 nm I C E R era)
    clear hb1
    refine wp_region_GX 5 (fun ix => (lookL [.agg (tokV nm I C E R), .agg (recV 0 ⟨nm2.toArray⟩ 0 0 W), .int .i64 ch, .int .i64 m, .int .i64 era, .bool b1, .agg (tokV nm I C E R), .agg (recV 0 ⟨nm2.toArray⟩ 0 0 W), .int .i64 ch, .int .i64 m, .int .i64 era, .bool b1, .bool true, .bool true, .agg (tokV nm I C E R), .agg (recV 0 ⟨nm.toArray⟩ 0 0 I), .int .i64 ch, .pointer (some ⟨gt, 0 + 3, none⟩), .int .i64 E, .int .i64 (E - 1), .pointer (some ⟨gt, 0 + 4, none⟩), .int .i64 R, .bool (ch == C), .int .i64 ch, .pointer (some ⟨gt, 0 + 2, none⟩), .int .i64 C, .bool (ch == C), .bool true, .bool true, .bool true, .agg (tokV nm I C E R), .agg (recV 0 ⟨nm.toArray⟩ 0 0 I), .pointer (some ⟨gt, 0 + 2, none⟩), .int .i64 C, .pointer (some ⟨gt, 0 + 3, none⟩), .int .i64 E, .int .i64 (E - 1), .int .i64 era, .bool (era == R), .int .i64 era, .pointer (some ⟨gt, 0 + 4, none⟩), .int .i64 R, .bool (era == R), .bool true, .bool true, .bool true] ix).getD undef) (by kernel_rfl) (by kernel_rfl) (by kernel_rfl) ?_
    refine GE_ex (v := .agg (tokV nm I C E R)) (ExtM.refl _ _) rfl rfl rfl (fun u hu hf => r_loadBlk (rho_base rfl rfl) (hT12.extM (bt := 5) (by decide) hu) Try.underlying35 rfl (size35 _ _ _ _ _)) ?_
    refine GE_ex (v := .agg (recV 0 ⟨nm2.toArray⟩ 0 0 W)) (ExtM.refl _ _) rfl rfl rfl (fun u hu hf => r_loadBlk (rho_base rfl rfl) (hW12.extM (bt := 5) (by decide) hu) Try.underlying28 rfl (size28 _ _ _ _ _)) ?_
    refine GE_ex (v := .int .i64 ch) (ExtM.refl _ _) rfl rfl rfl (fun u hu hf => r_move (rho_base rfl rfl)) ?_
    refine GE_ex (v := .int .i64 m) (ExtM.refl _ _) rfl rfl rfl (fun u hu hf => r_move (rho_base rfl rfl)) ?_
    refine GE_ex (v := .int .i64 era) (ExtM.refl _ _) rfl rfl rfl (fun u hu hf => r_move (rho_base rfl rfl)) ?_
    refine GE_call (v := .bool b1) (f := 25) (args := #[.agg (tokV nm I C E R), .agg (recV 0 ⟨nm2.toArray⟩ 0 0 W), .int .i64 ch, .int .i64 m, .int .i64 era]) rfl rfl rfl (fun u => r_call pf25 (map5 (rho_env rfl) (rho_env rfl) (rho_env rfl) (rho_env rfl) (rho_env rfl)) rfl) (fun u hu hf => ?_) ?_
    · refine (live_any nm I C E R 0 nm2 0 0 W ch m era u).mono ?_
      rintro _ u' ⟨rfl, hb⟩
      exact ⟨by rw [HB1.out], ExtM.of hb hu.below.size⟩
    refine GE_ex (v := .agg (tokV nm I C E R)) (ExtM.refl _ _) rfl rfl rfl (fun u hu hf => r_loadBlk (rho_base rfl rfl) (hT12.extM (bt := 5) (by decide) hu) Try.underlying35 rfl (size35 _ _ _ _ _)) ?_
    refine GE_ex (v := .agg (recV 0 ⟨nm2.toArray⟩ 0 0 W)) (ExtM.refl _ _) rfl rfl rfl (fun u hu hf => r_loadBlk (rho_base rfl rfl) (hW12.extM (bt := 5) (by decide) hu) Try.underlying28 rfl (size28 _ _ _ _ _)) ?_
    refine GE_ex (v := .int .i64 ch) (ExtM.refl _ _) rfl rfl rfl (fun u hu hf => r_move (rho_base rfl rfl)) ?_
    refine GE_ex (v := .int .i64 m) (ExtM.refl _ _) rfl rfl rfl (fun u hu hf => r_move (rho_base rfl rfl)) ?_
    refine GE_ex (v := .int .i64 era) (ExtM.refl _ _) rfl rfl rfl (fun u hu hf => r_move (rho_base rfl rfl)) ?_
    refine GE_call (v := .bool b1) (f := 27) (args := #[.agg (tokV nm I C E R), .agg (recV 0 ⟨nm2.toArray⟩ 0 0 W), .int .i64 ch, .int .i64 m, .int .i64 era]) rfl rfl rfl (fun u => r_call pf27 (map5 (rho_env rfl) (rho_env rfl) (rho_env rfl) (rho_env rfl) (rho_env rfl)) rfl) (fun u hu hf => ?_) ?_
    · refine (rlive_any nm I C E R 0 nm2 0 0 W ch m era u).mono ?_
      rintro _ u' ⟨rfl, hb⟩
      exact ⟨by rw [HB1.out], ExtM.of hb hu.below.size⟩
    refine GE_ex (v := .bool true) (ExtM.refl _ _) rfl rfl rfl (fun u hu hf => (r_eqBool Try.underlying4 (rho_env rfl) (rho_env rfl)).trans (by simp)) ?_
    refine GE_ex (v := .bool true) (ExtM.refl _ _) rfl rfl rfl (fun u hu hf => r_move (rho_env rfl)) ?_
    refine GE_ex (v := .agg (tokV nm I C E R)) (ExtM.refl _ _) rfl rfl rfl (fun u hu hf => r_loadBlk (rho_base rfl rfl) (hT12.extM (bt := 5) (by decide) hu) Try.underlying35 rfl (size35 _ _ _ _ _)) ?_
    refine GE_ex (v := .agg (recV 0 ⟨nm.toArray⟩ 0 0 I)) (ExtM.refl _ _) rfl rfl rfl (fun u hu hf => r_loadBlk (rho_base rfl rfl) (hR12.extM (bt := 5) (by decide) hu) Try.underlying28 rfl (size28 _ _ _ _ _)) ?_
    refine GE_ex (v := .int .i64 ch) (ExtM.refl _ _) rfl rfl rfl (fun u hu hf => r_move (rho_base rfl rfl)) ?_
    refine GE_ex (v := .pointer (some ⟨gt, 0 + 3, none⟩)) (ExtM.refl _ _) rfl rfl rfl (fun u hu hf => r_fieldAddr (rho_base rfl rfl) fld35_3) ?_
    refine GE_ex (v := .int .i64 E) (ExtM.refl _ _) rfl rfl rfl (fun u hu hf => r_load (rho_env rfl) on3 (hu.cell t3)) ?_
    refine GE_ex (v := .int .i64 (E - 1)) (ExtM.refl _ _) rfl rfl rfl (fun u hu hf => r_subI (rho_env rfl) rho_const ⟨rfl, by omega⟩) ?_
    refine GE_ex (v := .pointer (some ⟨gt, 0 + 4, none⟩)) (ExtM.refl _ _) rfl rfl rfl (fun u hu hf => r_fieldAddr (rho_base rfl rfl) fld35_4) ?_
    refine GE_ex (v := .int .i64 R) (ExtM.refl _ _) rfl rfl rfl (fun u hu hf => r_load (rho_env rfl) on3 (hu.cell t4)) ?_
    refine GE_call (v := .bool (ch == C)) (f := 25) (args := #[.agg (tokV nm I C E R), .agg (recV 0 ⟨nm.toArray⟩ 0 0 I), .int .i64 ch, .int .i64 (E - 1), .int .i64 R]) rfl rfl rfl (fun u => r_call pf25 (map5 (rho_env rfl) (rho_env rfl) (rho_env rfl) (rho_env rfl) (rho_env rfl)) rfl) (fun u hu hf => ?_) ?_
    · refine (live_any nm I C E R 0 nm 0 0 I ch (E - 1) R u).mono ?_
      rintro _ u' ⟨rfl, hb⟩
      exact ⟨by rw [HL4.out], ExtM.of hb hu.below.size⟩
    refine GE_ex (v := .int .i64 ch) (ExtM.refl _ _) rfl rfl rfl (fun u hu hf => r_move (rho_base rfl rfl)) ?_
    refine GE_ex (v := .pointer (some ⟨gt, 0 + 2, none⟩)) (ExtM.refl _ _) rfl rfl rfl (fun u hu hf => r_fieldAddr (rho_base rfl rfl) fld35_2) ?_
    refine GE_ex (v := .int .i64 C) (ExtM.refl _ _) rfl rfl rfl (fun u hu hf => r_load (rho_env rfl) on3 (hu.cell t2)) ?_
    refine GE_ex (v := .bool (ch == C)) (ExtM.refl _ _) rfl rfl rfl (fun u hu hf => (r_eqlI (rho_env rfl) (rho_env rfl))) ?_
    refine GE_ex (v := .bool true) (ExtM.refl _ _) rfl rfl rfl (fun u hu hf => (r_eqBool Try.underlying4 (rho_env rfl) (rho_env rfl)).trans (by simp)) ?_
    refine GE_ex (v := .bool true) (ExtM.refl _ _) rfl rfl rfl (fun u hu hf => r_pickT (rho_env rfl) (rho_env rfl)) ?_
    refine GE_ex (v := .bool true) (ExtM.refl _ _) rfl rfl rfl (fun u hu hf => r_move (rho_env rfl)) ?_
    refine GE_ex (v := .agg (tokV nm I C E R)) (ExtM.refl _ _) rfl rfl rfl (fun u hu hf => r_loadBlk (rho_base rfl rfl) (hT12.extM (bt := 5) (by decide) hu) Try.underlying35 rfl (size35 _ _ _ _ _)) ?_
    refine GE_ex (v := .agg (recV 0 ⟨nm.toArray⟩ 0 0 I)) (ExtM.refl _ _) rfl rfl rfl (fun u hu hf => r_loadBlk (rho_base rfl rfl) (hR12.extM (bt := 5) (by decide) hu) Try.underlying28 rfl (size28 _ _ _ _ _)) ?_
    refine GE_ex (v := .pointer (some ⟨gt, 0 + 2, none⟩)) (ExtM.refl _ _) rfl rfl rfl (fun u hu hf => r_fieldAddr (rho_base rfl rfl) fld35_2) ?_
    refine GE_ex (v := .int .i64 C) (ExtM.refl _ _) rfl rfl rfl (fun u hu hf => r_load (rho_env rfl) on3 (hu.cell t2)) ?_
    refine GE_ex (v := .pointer (some ⟨gt, 0 + 3, none⟩)) (ExtM.refl _ _) rfl rfl rfl (fun u hu hf => r_fieldAddr (rho_base rfl rfl) fld35_3) ?_
    refine GE_ex (v := .int .i64 E) (ExtM.refl _ _) rfl rfl rfl (fun u hu hf => r_load (rho_env rfl) on3 (hu.cell t3)) ?_
    refine GE_ex (v := .int .i64 (E - 1)) (ExtM.refl _ _) rfl rfl rfl (fun u hu hf => r_subI (rho_env rfl) rho_const ⟨rfl, by omega⟩) ?_
    refine GE_ex (v := .int .i64 era) (ExtM.refl _ _) rfl rfl rfl (fun u hu hf => r_move (rho_base rfl rfl)) ?_
    refine GE_call (v := .bool (era == R)) (f := 25) (args := #[.agg (tokV nm I C E R), .agg (recV 0 ⟨nm.toArray⟩ 0 0 I), .int .i64 C, .int .i64 (E - 1), .int .i64 era]) rfl rfl rfl (fun u => r_call pf25 (map5 (rho_env rfl) (rho_env rfl) (rho_env rfl) (rho_env rfl) (rho_env rfl)) rfl) (fun u hu hf => ?_) ?_
    · refine (live_any nm I C E R 0 nm 0 0 I C (E - 1) era u).mono ?_
      rintro _ u' ⟨rfl, hb⟩
      exact ⟨by rw [HL5.out], ExtM.of hb hu.below.size⟩
    refine GE_ex (v := .int .i64 era) (ExtM.refl _ _) rfl rfl rfl (fun u hu hf => r_move (rho_base rfl rfl)) ?_
    refine GE_ex (v := .pointer (some ⟨gt, 0 + 4, none⟩)) (ExtM.refl _ _) rfl rfl rfl (fun u hu hf => r_fieldAddr (rho_base rfl rfl) fld35_4) ?_
    refine GE_ex (v := .int .i64 R) (ExtM.refl _ _) rfl rfl rfl (fun u hu hf => r_load (rho_env rfl) on3 (hu.cell t4)) ?_
    refine GE_ex (v := .bool (era == R)) (ExtM.refl _ _) rfl rfl rfl (fun u hu hf => (r_eqlI (rho_env rfl) (rho_env rfl))) ?_
    refine GE_ex (v := .bool true) (ExtM.refl _ _) rfl rfl rfl (fun u hu hf => (r_eqBool Try.underlying4 (rho_env rfl) (rho_env rfl)).trans (by simp)) ?_
    refine GE_ex (v := .bool true) (ExtM.refl _ _) rfl rfl rfl (fun u hu hf => r_pickT (rho_env rfl) (rho_env rfl)) ?_
    refine GE_ex (v := .bool true) (ExtM.refl _ _) rfl rfl rfl (fun u hu hf => r_assign (rho_env rfl)) ?_
    refine GE_nil fun wb hu hf => ?_
    rw [withEnv_norm (rfl : setsL _ 0 _ = [_, _, _, _, _, _, _, _, _, _, _, _, _, _, _, _, _, _, _, _, _, _, _, _, _, _, _, _, _, _, _, _, _, _, _, _, _, _, _, _, _, _, _, _, _, _, _, _, _, _, _, _, _, _, _, _, _, _, _, _, _, _, _, _, _, _, _, _, _, _, _, _, _, _, _, _, _, _, _, _, _, _, _, _, _, _, _, _, _, _, _, _, _, _, _, _, _, _, _, _, _, _, _, _, _, _, _, _, _, _, _, _, _, _, _, _, _, _, _, _, _, _, _, _, _, _, _, _, _, _, _, _, _, _, _, _, _, _, _, _, _, _, _, _, _, _])]
    clear hf
    have hbw13 := hbw12.trans (hu.below.mono hbw12.size)
    clear hu
    go_wp2
    go_ret
    exact ⟨rfl, hbw13⟩
end Go.Proofs.Ythpjihiikkhcjaa
namespace Go.Sp
open Go.RowKit
theorem r_neqS {P : Program} {w : World} {ρ : Operand → Value} {d : Option Tmp} {ty t t' : TypeId} {pos : String} {aft : Array Edge} {g : Option (Nat × Bool)} {x y : Operand} {a b : List UInt8} (hx : ρ x = .string ⟨a.toArray⟩) (hy : ρ y = .string ⟨b.toArray⟩) :
    (execOp ρ ⟨d, .binOp .neq t x y t', ty, pos, aft, g⟩).run P w = .ok (.value (.bool (a != b))) w :=
  r_bin hx hy rfl (by go_simp; unfold bne; simp)
theorem num_eq (b : List UInt8) (L k : Nat) (_h : 1 + L + 8 * k + 8 ≤ b.length) : numB (((b.take b.length).drop (1 + L + 8 * k)).take 8) = numAt b L k := by
  unfold numAt
  rw [List.take_length, List.take_drop]
end Go.Sp
namespace Go.Proofs.Ythpjihiikkhcjaa
open Go.RowKit Go.Sp
theorem r_alloc35 {ρ : Operand → Value} {d ty pos aft g} (u : World) : (execOp ρ ⟨d, .alloc 35, ty, pos, aft, g⟩).run Try.prog u = .ok (.value (.pointer (some ⟨u.heap.size, 0, none⟩))) (u.alloc (.cells zeroTok 35)) := by
  simp only [execOp]
  go_simp
  rfl
theorem r_build35 {ρ : Operand → Value} {d ty pos aft g} {p0 p1 p2 p3 p4 : Operand} {u : World} {nm : List UInt8} {a0 a1 a2 a3 : Int} (h0 : ρ p0 = .string ⟨nm.toArray⟩) (h1 : ρ p1 = .int .i64 a0) (h2 : ρ p2 = .int .i64 a1) (h3 : ρ p3 = .int .i64 a2) (h4 : ρ p4 = .int .i64 a3) :
    (execOp ρ ⟨d, .build 35 #[(0, p0), (1, p1), (2, p2), (3, p3), (4, p4)], ty, pos, aft, g⟩).run Try.prog u = .ok (.value (.agg (tokV nm a0 a1 a2 a3))) u := by
  simp only [execOp]
  go_simp
  rfl
set_option maxRecDepth 100000 in
set_option maxHeartbeats 4000000 in
theorem rread_len (kv bv : Value) (b : List UInt8) (w : World) (hb : Byt w bv b) (h : b = [] ∨ ∃ y, b[0]? = some y ∧ b.length ≠ 1 + y.toNat + 48) :
    Calls Try.prog 24 #[kv, bv] w fun e' w' => e' = .returned (.tuple #[.agg zeroTok, .bool false]) ∧ Below w.heap.size w w' := by
  have hzt : zeroTok = #[.string ⟨#[]⟩, .int .i64 0, .int .i64 0, .int .i64 0, .int .i64 0] := rfl
  have hB := Lib.hid hb
  obtain ⟨ba, bc, rfl, hbc, hbm⟩ := hb.len
  unfold maxLen at hbm
  rcases h with rfl | ⟨y, hy, hne⟩
  · go_enter Try.func24, Try.ntmps24
    go_wp2
    exact bodyPost_ret (results_row_tmp rfl _ _ w.heap.size 35 zeroTok (0, 0) _ rfl (Blk.new w _ 35) Try.underlying35 rfl (size35 _ _ _ _ _)) rfl ⟨rfl, (Below.refl _ _).alloc (Nat.le_refl _) _⟩
  · have h1 : ¬ (b.length : Int) < 1 := by
      have := (List.getElem?_eq_some_iff.1 hy).1
      omega
    rcases hB.out with ⟨_, h0⟩ | ⟨g, off, cap, he, _, _, hg, hc⟩
    · rw [h0] at hy; cases hy
    simp only [Value.slice.injEq, true_and] at he
    obtain ⟨rfl, rfl⟩ := he
    have hcy := hc 0 y hy
    rw [Nat.add_zero] at hcy
    have hl0 : (0 : Int) < (b.length : Int) := by omega
    have hl63 : (b.length : Int) ≤ 9223372036854775807 := by omega
    have hne' : ((b.length : Int) != 1 + (y.toNat : Int) + 32 + 16) = true := by simp; omega
    have hy1 : (y.toNat : Int) ≤ 255 := by have := y.toNat_lt; omega
    clear hc hy hne
    go_enter Try.func24, Try.ntmps24
    go_wp2
    exact bodyPost_ret (results_row_tmp rfl _ _ w.heap.size 35 zeroTok (0, 0) _ rfl (Blk.new w _ 35) Try.underlying35 rfl (size35 _ _ _ _ _)) rfl ⟨rfl, (Below.refl _ _).alloc (Nat.le_refl _) _⟩
set_option maxRecDepth 100000 in
set_option maxHeartbeats 8000000 in
theorem rread_main (kv : Value) (key b : List UInt8) (y : UInt8) (ba : Option Addr) (bc : Nat) (w : World) (hk : Byt w kv key) (hb : Byt w (.slice ba b.length bc) b) (hkl : key.length ≤ 1000) (hy : b[0]? = some y) (hbl : b.length = 1 + y.toNat + 48) :
    Calls Try.prog 24 #[kv, .slice ba b.length bc] w fun e' w' => e' = .returned (.tuple #[.agg (readM key b).1, .bool (readM key b).2]) ∧ Below w.heap.size w w' := by
  have HK := Lib.hid hk
  have HB := Lib.hid hb
  obtain ⟨ka, kc, rfl, hkc, hkm⟩ := hk.len
  have hbc : b.length ≤ bc ∧ bc ≤ 9223372036854775807 := by
    obtain ⟨_, _, h1, h2, h3⟩ := hb.len
    unfold maxLen at h3
    simp only [Value.slice.injEq, true_and] at h1
    obtain ⟨_, rfl⟩ := h1
    omega
  obtain ⟨hbc, hbm⟩ := hbc
  have hylt := y.toNat_lt
  obtain ⟨R, hR⟩ : ∃ R, R = readM key b := ⟨_, rfl⟩
  rw [← hR]
  unfold readM at hR
  rw [hy] at hR
  simp only [hbl, ne_eq, not_true_eq_false, if_false] at hR
  obtain ⟨nm, hnm⟩ : ∃ nm, nm = (b.take (1 + y.toNat)).drop 1 := ⟨_, rfl⟩
  have hnl : nm.length = y.toNat := by rw [hnm]; simp; omega
  rw [← hnm] at hR
  have HNM := Lib.hid hnm
  have HNL := Lib.hid hnl
  have HR := Lib.hid hR
  have HBL := Lib.hid hbl
  have hcy : w.cell? (Addr.mk 0 0 none) = w.cell? (Addr.mk 0 0 none) := rfl
  rcases HB.out with ⟨_, h0⟩ | ⟨g, off, cap, he, _, _, hg, hc⟩
  · rw [h0] at hy; cases hy
  simp only [Value.slice.injEq, true_and] at he
  obtain ⟨rfl, rfl⟩ := he
  have hcy := hc 0 y hy
  rw [Nat.add_zero] at hcy
  have hl0 : (0 : Int) < (b.length : Int) := by omega
  have h1 : ¬ (b.length : Int) < 1 := by omega
  have hne' : ((b.length : Int) != 1 + (y.toNat : Int) + 32 + 16) = false := by simp; omega
  have hy1 : (y.toNat : Int) ≤ 255 := by omega
  clear hc hy hk hb hR hnm hnl hbl hylt
  obtain ⟨N, hN⟩ : ∃ N : Nat, N = 1 + y.toNat := ⟨_, rfl⟩
  have hNi : (1 + (y.toNat : Int)) = (N : Int) := by omega
  have hbN : b.length = N + 48 := by have := HBL.out; omega
  have hN1 : 1 ≤ N ∧ N ≤ 256 := by omega
  obtain ⟨f, hf⟩ : ∃ f, f = numAt b y.toNat := ⟨_, rfl⟩
  have HF0 : Hid (numB (((b.take b.length).drop N).take 8) = f 0) := Lib.hid (by rw [hf, ← num_eq b y.toNat 0 (by omega), hN]; rfl)
  have HF1 : Hid (numB (((b.take b.length).drop (N + 8)).take 8) = f 1) := Lib.hid (by rw [hf, ← num_eq b y.toNat 1 (by omega), hN])
  have HF2 : Hid (numB (((b.take b.length).drop (N + 16)).take 8) = f 2) := Lib.hid (by rw [hf, ← num_eq b y.toNat 2 (by omega), hN])
  have HF3 : Hid (numB (((b.take b.length).drop (N + 24)).take 8) = f 3) := Lib.hid (by rw [hf, ← num_eq b y.toNat 3 (by omega), hN])
  have hR2 := HR.out
  rw [← hf] at hR2
  have HR2 := Lib.hid hR2
  have HB1 : Hid (Byt w (.slice (some ⟨g, off, none⟩) b.length bc) b) := HB
  have HNI := Lib.hid hNi
  have HN : Hid (N = 1 + y.toNat) := Lib.hid hN
  have HBN := Lib.hid hbN
  clear hf hR2 hNi hN hbN HR
  go_enter Try.func24, Try.ntmps24
  go_wp2_with fail
  rw [HNI.out]
  have hZ2 : Blk (w.alloc (.cells zeroTok 35)) w.heap.size zeroTok 35 := Blk.new w _ 35
  have hbw2 : Below w.heap.size w (w.alloc (.cells zeroTok 35)) := (Below.refl _ _).alloc (Nat.le_refl _) _
  rw [show (w.alloc (.cells #[.string ⟨#[]⟩, .int .i64 0, .int .i64 0, .int .i64 0, .int .i64 0] 35)) = w.alloc (.cells zeroTok 35) from rfl]
  have HB2 := Lib.hid (HB.out.ext hbw2)
  have HK2 := Lib.hid (HK.out.ext hbw2)
  clear HB HK HB1
  have HB := HB2
  have HK := HK2
  clear HB2 HK2
  generalize w.alloc (.cells zeroTok 35) = w2 at *
  have hcut := HB.out.cut 1 N (by omega) (by have := HBN.out; omega)
  have hnmc : (b.take N).drop 1 = nm := by rw [HNM.out, HN.out]
  rw [hnmc] at hcut
  have HC1 := Lib.hid hcut
  clear hcut hnmc hcy
  have hbN := HBN.out
  refine wp_region_GE 24 (fun j => j == 25) (fun j => !(j == 24 || j == 25)) (fun ix => (lookL [(.slice (some ⟨g, off, none⟩) b.length bc), .int .i64 (N : Int), (cutV (some ⟨g, off, none⟩) bc 1 N), .string ⟨nm.toArray⟩, (.slice (some ⟨g, off, none⟩) b.length bc), .int .i64 (N : Int), (cutV (some ⟨g, off, none⟩) bc N b.length), .int .i64 (f 0), (.slice (some ⟨g, off, none⟩) b.length bc), .int .i64 (N : Int), .int .i64 ((N + 8 : Nat) : Int), (cutV (some ⟨g, off, none⟩) bc (N + 8) b.length), .int .i64 (f 1), (.slice (some ⟨g, off, none⟩) b.length bc), .int .i64 (N : Int), .int .i64 ((N + 16 : Nat) : Int), (cutV (some ⟨g, off, none⟩) bc (N + 16) b.length), .int .i64 (f 2), (.slice (some ⟨g, off, none⟩) b.length bc), .int .i64 (N : Int), .int .i64 ((N + 24 : Nat) : Int), (cutV (some ⟨g, off, none⟩) bc (N + 24) b.length), .int .i64 (f 3), .agg (tokV nm (f 0) (f 1) (f 2) (f 3)), undef, undef] ix).getD undef) (Grew w2.heap.size (tokV nm (f 0) (f 1) (f 2) (f 3))) (VGr w2.heap.size zeroTok (tokV nm (f 0) (f 1) (f 2) (f 3)) 35 24 25) (by kernel_rfl) (by kernel_rfl) (by kernel_rfl) (by kernel_rfl) Grew.refl (fun _ _ _ => Grew.trans) (Grew.drew _) VGr.mono VGr.dep fun x => ?_
  refine GE_ex (v := (.slice (some ⟨g, off, none⟩) b.length bc)) Grew.refl rfl rfl rfl (fun u hu hf => r_move (rho_base rfl rfl)) ?_
  refine GE_ex (v := .int .i64 (N : Int)) Grew.refl rfl rfl rfl (fun u hu hf => r_move (rho_base rfl rfl)) ?_
  refine GE_ex (v := (cutV (some ⟨g, off, none⟩) bc 1 N)) Grew.refl rfl rfl rfl (fun u hu hf => r_slLH (k := .i64) (k' := .i64) (lo := 1) (hi := N) sl1_29 (rho_env rfl) rho_const (rho_env rfl) (by omega) (by omega)) ?_
  refine GE_ex (v := .string ⟨nm.toArray⟩) Grew.refl rfl rfl rfl (fun u hu hf => r_conv (rho_env rfl) (Byt.str (HC1.out.ext hu.below) Try.underlying23 Try.underlying5 Try.underlying9)) ?_
  refine GE_ex (v := (.slice (some ⟨g, off, none⟩) b.length bc)) Grew.refl rfl rfl rfl (fun u hu hf => r_move (rho_base rfl rfl)) ?_
  refine GE_ex (v := .int .i64 (N : Int)) Grew.refl rfl rfl rfl (fun u hu hf => r_move (rho_base rfl rfl)) ?_
  refine GE_ex (v := (cutV (some ⟨g, off, none⟩) bc N b.length)) Grew.refl rfl rfl rfl (fun u hu hf => r_slL (k := .i64) (lo := N) sl1_29 (rho_env rfl) (rho_env rfl) (by omega)) ?_
  refine GE_call (v := .int .i64 (f 0)) (f := 46) (args := #[cutV (some ⟨g, off, none⟩) bc N b.length]) rfl rfl rfl (fun u => r_call pf46 (map1 (rho_env rfl)) rfl) (fun u hu hf => ?_) ?_
  · refine (rnumber_any _ _ u ((HB.out.ext hu.below).cut N b.length (by omega) (Nat.le_refl _)) (by simp; omega)).mono ?_
    rintro _ u' ⟨rfl, rfl⟩
    exact ⟨by rw [HF0.out], Grew.refl _⟩
  refine GE_ex (v := (.slice (some ⟨g, off, none⟩) b.length bc)) Grew.refl rfl rfl rfl (fun u hu hf => r_move (rho_base rfl rfl)) ?_
  refine GE_ex (v := .int .i64 (N : Int)) Grew.refl rfl rfl rfl (fun u hu hf => r_move (rho_base rfl rfl)) ?_
  refine GE_ex (v := .int .i64 ((N + 8 : Nat) : Int)) Grew.refl rfl rfl rfl (fun u hu hf => r_addI (rho_env rfl) rho_const ⟨by omega, by omega⟩) ?_
  refine GE_ex (v := (cutV (some ⟨g, off, none⟩) bc (N + 8) b.length)) Grew.refl rfl rfl rfl (fun u hu hf => r_slL (k := .i64) (lo := (N + 8)) sl1_29 (rho_env rfl) (rho_env rfl) (by omega)) ?_
  refine GE_call (v := .int .i64 (f 1)) (f := 46) (args := #[cutV (some ⟨g, off, none⟩) bc (N + 8) b.length]) rfl rfl rfl (fun u => r_call pf46 (map1 (rho_env rfl)) rfl) (fun u hu hf => ?_) ?_
  · refine (rnumber_any _ _ u ((HB.out.ext hu.below).cut (N + 8) b.length (by omega) (Nat.le_refl _)) (by simp; omega)).mono ?_
    rintro _ u' ⟨rfl, rfl⟩
    exact ⟨by rw [HF1.out], Grew.refl _⟩
  refine GE_ex (v := (.slice (some ⟨g, off, none⟩) b.length bc)) Grew.refl rfl rfl rfl (fun u hu hf => r_move (rho_base rfl rfl)) ?_
  refine GE_ex (v := .int .i64 (N : Int)) Grew.refl rfl rfl rfl (fun u hu hf => r_move (rho_base rfl rfl)) ?_
  refine GE_ex (v := .int .i64 ((N + 16 : Nat) : Int)) Grew.refl rfl rfl rfl (fun u hu hf => r_addI (rho_env rfl) rho_const ⟨by omega, by omega⟩) ?_
  refine GE_ex (v := (cutV (some ⟨g, off, none⟩) bc (N + 16) b.length)) Grew.refl rfl rfl rfl (fun u hu hf => r_slL (k := .i64) (lo := (N + 16)) sl1_29 (rho_env rfl) (rho_env rfl) (by omega)) ?_
  refine GE_call (v := .int .i64 (f 2)) (f := 46) (args := #[cutV (some ⟨g, off, none⟩) bc (N + 16) b.length]) rfl rfl rfl (fun u => r_call pf46 (map1 (rho_env rfl)) rfl) (fun u hu hf => ?_) ?_
  · refine (rnumber_any _ _ u ((HB.out.ext hu.below).cut (N + 16) b.length (by omega) (Nat.le_refl _)) (by simp; omega)).mono ?_
    rintro _ u' ⟨rfl, rfl⟩
    exact ⟨by rw [HF2.out], Grew.refl _⟩
  refine GE_ex (v := (.slice (some ⟨g, off, none⟩) b.length bc)) Grew.refl rfl rfl rfl (fun u hu hf => r_move (rho_base rfl rfl)) ?_
  refine GE_ex (v := .int .i64 (N : Int)) Grew.refl rfl rfl rfl (fun u hu hf => r_move (rho_base rfl rfl)) ?_
  refine GE_ex (v := .int .i64 ((N + 24 : Nat) : Int)) Grew.refl rfl rfl rfl (fun u hu hf => r_addI (rho_env rfl) rho_const ⟨by omega, by omega⟩) ?_
  refine GE_ex (v := (cutV (some ⟨g, off, none⟩) bc (N + 24) b.length)) Grew.refl rfl rfl rfl (fun u hu hf => r_slL (k := .i64) (lo := (N + 24)) sl1_29 (rho_env rfl) (rho_env rfl) (by omega)) ?_
  refine GE_call (v := .int .i64 (f 3)) (f := 46) (args := #[cutV (some ⟨g, off, none⟩) bc (N + 24) b.length]) rfl rfl rfl (fun u => r_call pf46 (map1 (rho_env rfl)) rfl) (fun u hu hf => ?_) ?_
  · refine (rnumber_any _ _ u ((HB.out.ext hu.below).cut (N + 24) b.length (by omega) (Nat.le_refl _)) (by simp; omega)).mono ?_
    rintro _ u' ⟨rfl, rfl⟩
    exact ⟨by rw [HF3.out], Grew.refl _⟩
  refine GE_ex (v := .agg (tokV nm (f 0) (f 1) (f 2) (f 3))) Grew.refl rfl rfl rfl (fun u hu hf => r_build35 (rho_env rfl) (rho_env rfl) (rho_env rfl) (rho_env rfl) (rho_env rfl)) ?_
  refine GE_any rfl rfl (fun u hu hf => ⟨_, _, r_alloc35 u, Grew.of ((Below.refl _ _).alloc (Nat.le_refl _) _) hu.below.size, VGr.al (by decide) hu.below.size⟩) ?_
  refine GE_store rfl rfl (fun u hu hf => ?_) ?_
  · obtain ⟨g1, hx, hg1, hB⟩ := (hf 24 rfl (by decide) rfl).1 rfl
    exact grow_store ((rho_env rfl).trans hx) (rho_env rfl) hB rfl (size35 _ _ _ _ _) (by simp [tokV, Value.oneCell']) hg1 (VGr.st (by decide) hx hg1)
  refine GE_nil fun wa hu hf => ?_
  rw [withEnv_norm (rfl : setsL _ 0 _ = [_, _, _, _, _, _, _, _, _, _, _, _, _, _, _, _, _, _, _, _, _, _, _, _, _, _, _, _, _, _, _, _, _, _, _, _, _, _, _, _, _, _, _, _, _, _, _, _, _, _, _, _, _, _, _, _, _, _, _, _, _, _, _, _, _, _, _, _, _, _, _, _, _, _, _, _, _, _, _, _, _, _, _, _, _, _, _, _])]
  obtain ⟨gT, hxT, hgT, hTok⟩ := (hf 25 (by decide) rfl).2 rfl
  rw [hxT]
  clear hxT hf
  clear hbN
  have hZ : Blk wa w.heap.size zeroTok 35 := hZ2.below hu.below hZ2.lt
  have hbw4 := hbw2.trans (hu.below.mono hbw2.size)
  have hkw := HK.out.ext hu.below
  have hbw' := HB.out.ext hu.below
  have k0 : wa.cell? ⟨gT, 0 + 0, none⟩ = some (.string ⟨nm.toArray⟩) := by rw [hTok.cell]; rfl
  have k1 : wa.cell? ⟨gT, 0 + 1, none⟩ = some (.int .i64 (f 0)) := by rw [hTok.cell]; rfl
  have k2 : wa.cell? ⟨gT, 0 + 2, none⟩ = some (.int .i64 (f 1)) := by rw [hTok.cell]; rfl
  have k3 : wa.cell? ⟨gT, 0 + 3, none⟩ = some (.int .i64 (f 2)) := by rw [hTok.cell]; rfl
  have k4 : wa.cell? ⟨gT, 0 + 4, none⟩ = some (.int .i64 (f 3)) := by rw [hTok.cell]; rfl
  clear hu hZ2 hbw2
  go_wp2_with fail
  by_cases hnd : namedM nm = false
  · have HND := Lib.hid hnd
    have HZ : Hid (R = (zeroTok, false)) := Lib.hid (by rw [HR2.out, if_pos hnd]; split <;> rfl)
    clear hnd
    refine wp_region_GX 5 (fun ix => (lookL [.pointer (some ⟨gT, 0 + 0, none⟩), .string ⟨nm.toArray⟩, .bool false, .bool true, .bool true, undef, undef, undef, .bool true, .bool true, undef, undef, undef, .bool true, .bool true, undef, undef, undef, .bool true, .bool true, undef, undef, undef, .bool true, .bool true, undef, undef, undef, undef, undef, undef, undef, .bool true] ix).getD undef) (by kernel_rfl) (by kernel_rfl) (by kernel_rfl) ?_
    refine GE_ex (v := .pointer (some ⟨gT, 0 + 0, none⟩)) (ExtM.refl _ _) rfl rfl rfl (fun u hu hf => r_fieldAddr (rho_base rfl rfl) fld35_0) ?_
    refine GE_ex (v := .string ⟨nm.toArray⟩) (ExtM.refl _ _) rfl rfl rfl (fun u hu hf => r_load (rho_env rfl) on9 (hu.cell k0)) ?_
    refine GE_call (v := .bool false) (f := 30) (args := #[.string ⟨nm.toArray⟩]) rfl rfl rfl (fun u => r_call pf30 (map1 (rho_env rfl)) rfl) (fun u hu hf => ?_) ?_
    · refine (wname_any nm u (by have := HNL.out; omega)).mono ?_
      rintro _ u' ⟨rfl, rfl⟩
      exact ⟨by rw [HND.out], ExtM.refl _ _ _⟩
    refine GE_ex (v := .bool true) (ExtM.refl _ _) rfl rfl rfl (fun u hu hf => r_not (a := false) (rho_env rfl)) ?_
    refine GE_ex (v := .bool true) (ExtM.refl _ _) rfl rfl rfl (fun u hu hf => r_move (rho_env rfl)) ?_
    refine GE_skip rfl rfl rfl ?_
    refine GE_skip rfl rfl rfl ?_
    refine GE_skip rfl rfl rfl ?_
    refine GE_ex (v := .bool true) (ExtM.refl _ _) rfl rfl rfl (fun u hu hf => r_pickT (rho_env rfl) rho_const) ?_
    refine GE_ex (v := .bool true) (ExtM.refl _ _) rfl rfl rfl (fun u hu hf => r_move (rho_env rfl)) ?_
    refine GE_skip rfl rfl rfl ?_
    refine GE_skip rfl rfl rfl ?_
    refine GE_skip rfl rfl rfl ?_
    refine GE_ex (v := .bool true) (ExtM.refl _ _) rfl rfl rfl (fun u hu hf => r_pickT (rho_env rfl) rho_const) ?_
    refine GE_ex (v := .bool true) (ExtM.refl _ _) rfl rfl rfl (fun u hu hf => r_move (rho_env rfl)) ?_
    refine GE_skip rfl rfl rfl ?_
    refine GE_skip rfl rfl rfl ?_
    refine GE_skip rfl rfl rfl ?_
    refine GE_ex (v := .bool true) (ExtM.refl _ _) rfl rfl rfl (fun u hu hf => r_pickT (rho_env rfl) rho_const) ?_
    refine GE_ex (v := .bool true) (ExtM.refl _ _) rfl rfl rfl (fun u hu hf => r_move (rho_env rfl)) ?_
    refine GE_skip rfl rfl rfl ?_
    refine GE_skip rfl rfl rfl ?_
    refine GE_skip rfl rfl rfl ?_
    refine GE_ex (v := .bool true) (ExtM.refl _ _) rfl rfl rfl (fun u hu hf => r_pickT (rho_env rfl) rho_const) ?_
    refine GE_ex (v := .bool true) (ExtM.refl _ _) rfl rfl rfl (fun u hu hf => r_move (rho_env rfl)) ?_
    refine GE_skip rfl rfl rfl ?_
    refine GE_skip rfl rfl rfl ?_
    refine GE_skip rfl rfl rfl ?_
    refine GE_skip rfl rfl rfl ?_
    refine GE_skip rfl rfl rfl ?_
    refine GE_skip rfl rfl rfl ?_
    refine GE_skip rfl rfl rfl ?_
    refine GE_ex (v := .bool true) (ExtM.refl _ _) rfl rfl rfl (fun u hu hf => r_pickT (rho_env rfl) rho_const) ?_
    refine GE_nil fun wb hu hf => ?_
    rw [withEnv_norm (rfl : setsL _ 0 _ = [_, _, _, _, _, _, _, _, _, _, _, _, _, _, _, _, _, _, _, _, _, _, _, _, _, _, _, _, _, _, _, _, _, _, _, _, _, _, _, _, _, _, _, _, _, _, _, _, _, _, _, _, _, _, _, _, _, _, _, _, _, _, _, _, _, _, _, _, _, _, _, _, _, _, _, _, _, _, _, _, _, _, _, _, _, _, _, _])]
    clear hf
    have hZ5 := hZ.extM (bt := 5) (by decide) hu
    have hbw5 := hbw4.trans (hu.below.mono hbw4.size)
    clear hu k0 k1 k2 k3 k4 hTok hbw4 hZ
    go_wp2_with (with_reducible refine stop_st 4 86 ?_)
    refine Stop.go (wpList_store_blk rfl rfl rfl rfl hZ5 rfl (size35 _ _ _ _ _) (by simp [Value.oneCell']) ?_)
    intro wz hRz hOz
    have hbwz := hbw5.trans (hOz.below (Nat.le_refl _) hbw5.size)
    clear hOz
    go_wp2
    exact bodyPost_ret (results_row_tmp rfl _ _ w.heap.size 35 zeroTok (0, 0) _ rfl hRz Try.underlying35 rfl (size35 _ _ _ _ _)) rfl ⟨by rw [HZ.out]; rfl, hbwz⟩
  have HND : Hid (namedM nm = true) := Lib.hid (by simpa using hnd)
  clear hnd
  by_cases hn : f 0 < 0
  · have HZ : Hid (R = (zeroTok, false)) := Lib.hid (by rw [HR2.out, if_pos (by omega)])
    refine wp_region_GX 5 (fun ix => (lookL [.pointer (some ⟨gT, 0 + 0, none⟩), .string ⟨nm.toArray⟩, .bool true, .bool false, .bool false, .pointer (some ⟨gT, 0 + 1, none⟩), .int .i64 (f 0), .bool true, .bool true, .bool true, undef, undef, undef, .bool true, .bool true, undef, undef, undef, .bool true, .bool true, undef, undef, undef, .bool true, .bool true, undef, undef, undef, undef, undef, undef, undef, .bool true] ix).getD undef) (by kernel_rfl) (by kernel_rfl) (by kernel_rfl) ?_
    refine GE_ex (v := .pointer (some ⟨gT, 0 + 0, none⟩)) (ExtM.refl _ _) rfl rfl rfl (fun u hu hf => r_fieldAddr (rho_base rfl rfl) fld35_0) ?_
    refine GE_ex (v := .string ⟨nm.toArray⟩) (ExtM.refl _ _) rfl rfl rfl (fun u hu hf => r_load (rho_env rfl) on9 (hu.cell k0)) ?_
    refine GE_call (v := .bool true) (f := 30) (args := #[.string ⟨nm.toArray⟩]) rfl rfl rfl (fun u => r_call pf30 (map1 (rho_env rfl)) rfl) (fun u hu hf => ?_) ?_
    · refine (wname_any nm u (by have := HNL.out; omega)).mono ?_
      rintro _ u' ⟨rfl, rfl⟩
      exact ⟨by rw [HND.out], ExtM.refl _ _ _⟩
    refine GE_ex (v := .bool false) (ExtM.refl _ _) rfl rfl rfl (fun u hu hf => r_not (a := true) (rho_env rfl)) ?_
    refine GE_ex (v := .bool false) (ExtM.refl _ _) rfl rfl rfl (fun u hu hf => r_move (rho_env rfl)) ?_
    refine GE_ex (v := .pointer (some ⟨gT, 0 + 1, none⟩)) (ExtM.refl _ _) rfl rfl rfl (fun u hu hf => r_fieldAddr (rho_base rfl rfl) fld35_1) ?_
    refine GE_ex (v := .int .i64 (f 0)) (ExtM.refl _ _) rfl rfl rfl (fun u hu hf => r_load (rho_env rfl) on3 (hu.cell k1)) ?_
    refine GE_ex (v := .bool true) (ExtM.refl _ _) rfl rfl rfl (fun u hu hf => (r_lssI (rho_env rfl) rho_const).trans (by rw [decide_eq_true hn])) ?_
    refine GE_ex (v := .bool true) (ExtM.refl _ _) rfl rfl rfl (fun u hu hf => r_pickF (rho_env rfl) (rho_env rfl)) ?_
    refine GE_ex (v := .bool true) (ExtM.refl _ _) rfl rfl rfl (fun u hu hf => r_move (rho_env rfl)) ?_
    refine GE_skip rfl rfl rfl ?_
    refine GE_skip rfl rfl rfl ?_
    refine GE_skip rfl rfl rfl ?_
    refine GE_ex (v := .bool true) (ExtM.refl _ _) rfl rfl rfl (fun u hu hf => r_pickT (rho_env rfl) rho_const) ?_
    refine GE_ex (v := .bool true) (ExtM.refl _ _) rfl rfl rfl (fun u hu hf => r_move (rho_env rfl)) ?_
    refine GE_skip rfl rfl rfl ?_
    refine GE_skip rfl rfl rfl ?_
    refine GE_skip rfl rfl rfl ?_
    refine GE_ex (v := .bool true) (ExtM.refl _ _) rfl rfl rfl (fun u hu hf => r_pickT (rho_env rfl) rho_const) ?_
    refine GE_ex (v := .bool true) (ExtM.refl _ _) rfl rfl rfl (fun u hu hf => r_move (rho_env rfl)) ?_
    refine GE_skip rfl rfl rfl ?_
    refine GE_skip rfl rfl rfl ?_
    refine GE_skip rfl rfl rfl ?_
    refine GE_ex (v := .bool true) (ExtM.refl _ _) rfl rfl rfl (fun u hu hf => r_pickT (rho_env rfl) rho_const) ?_
    refine GE_ex (v := .bool true) (ExtM.refl _ _) rfl rfl rfl (fun u hu hf => r_move (rho_env rfl)) ?_
    refine GE_skip rfl rfl rfl ?_
    refine GE_skip rfl rfl rfl ?_
    refine GE_skip rfl rfl rfl ?_
    refine GE_skip rfl rfl rfl ?_
    refine GE_skip rfl rfl rfl ?_
    refine GE_skip rfl rfl rfl ?_
    refine GE_skip rfl rfl rfl ?_
    refine GE_ex (v := .bool true) (ExtM.refl _ _) rfl rfl rfl (fun u hu hf => r_pickT (rho_env rfl) rho_const) ?_
    refine GE_nil fun wb hu hf => ?_
    rw [withEnv_norm (rfl : setsL _ 0 _ = [_, _, _, _, _, _, _, _, _, _, _, _, _, _, _, _, _, _, _, _, _, _, _, _, _, _, _, _, _, _, _, _, _, _, _, _, _, _, _, _, _, _, _, _, _, _, _, _, _, _, _, _, _, _, _, _, _, _, _, _, _, _, _, _, _, _, _, _, _, _, _, _, _, _, _, _, _, _, _, _, _, _, _, _, _, _, _, _])]
    clear hf
    have hZ5 := hZ.extM (bt := 5) (by decide) hu
    have hbw5 := hbw4.trans (hu.below.mono hbw4.size)
    clear hu k0 k1 k2 k3 k4 hTok hbw4 hZ
    go_wp2_with (with_reducible refine stop_st 4 86 ?_)
    refine Stop.go (wpList_store_blk rfl rfl rfl rfl hZ5 rfl (size35 _ _ _ _ _) (by simp [Value.oneCell']) ?_)
    intro wz hRz hOz
    have hbwz := hbw5.trans (hOz.below (Nat.le_refl _) hbw5.size)
    clear hOz
    go_wp2
    exact bodyPost_ret (results_row_tmp rfl _ _ w.heap.size 35 zeroTok (0, 0) _ rfl hRz Try.underlying35 rfl (size35 _ _ _ _ _)) rfl ⟨by rw [HZ.out]; rfl, hbwz⟩
  have hp0 : 0 ≤ f 0 := by omega
  clear hn
  by_cases hn : f 1 < 0
  · have HZ : Hid (R = (zeroTok, false)) := Lib.hid (by rw [HR2.out, if_pos (by omega)])
    refine wp_region_GX 5 (fun ix => (lookL [.pointer (some ⟨gT, 0 + 0, none⟩), .string ⟨nm.toArray⟩, .bool true, .bool false, .bool false, .pointer (some ⟨gT, 0 + 1, none⟩), .int .i64 (f 0), .bool false, .bool false, .bool false, .pointer (some ⟨gT, 0 + 2, none⟩), .int .i64 (f 1), .bool true, .bool true, .bool true, undef, undef, undef, .bool true, .bool true, undef, undef, undef, .bool true, .bool true, undef, undef, undef, undef, undef, undef, undef, .bool true] ix).getD undef) (by kernel_rfl) (by kernel_rfl) (by kernel_rfl) ?_
    refine GE_ex (v := .pointer (some ⟨gT, 0 + 0, none⟩)) (ExtM.refl _ _) rfl rfl rfl (fun u hu hf => r_fieldAddr (rho_base rfl rfl) fld35_0) ?_
    refine GE_ex (v := .string ⟨nm.toArray⟩) (ExtM.refl _ _) rfl rfl rfl (fun u hu hf => r_load (rho_env rfl) on9 (hu.cell k0)) ?_
    refine GE_call (v := .bool true) (f := 30) (args := #[.string ⟨nm.toArray⟩]) rfl rfl rfl (fun u => r_call pf30 (map1 (rho_env rfl)) rfl) (fun u hu hf => ?_) ?_
    · refine (wname_any nm u (by have := HNL.out; omega)).mono ?_
      rintro _ u' ⟨rfl, rfl⟩
      exact ⟨by rw [HND.out], ExtM.refl _ _ _⟩
    refine GE_ex (v := .bool false) (ExtM.refl _ _) rfl rfl rfl (fun u hu hf => r_not (a := true) (rho_env rfl)) ?_
    refine GE_ex (v := .bool false) (ExtM.refl _ _) rfl rfl rfl (fun u hu hf => r_move (rho_env rfl)) ?_
    refine GE_ex (v := .pointer (some ⟨gT, 0 + 1, none⟩)) (ExtM.refl _ _) rfl rfl rfl (fun u hu hf => r_fieldAddr (rho_base rfl rfl) fld35_1) ?_
    refine GE_ex (v := .int .i64 (f 0)) (ExtM.refl _ _) rfl rfl rfl (fun u hu hf => r_load (rho_env rfl) on3 (hu.cell k1)) ?_
    refine GE_ex (v := .bool false) (ExtM.refl _ _) rfl rfl rfl (fun u hu hf => (r_lssI (rho_env rfl) rho_const).trans (by rw [decide_eq_false (by omega)])) ?_
    refine GE_ex (v := .bool false) (ExtM.refl _ _) rfl rfl rfl (fun u hu hf => r_pickF (rho_env rfl) (rho_env rfl)) ?_
    refine GE_ex (v := .bool false) (ExtM.refl _ _) rfl rfl rfl (fun u hu hf => r_move (rho_env rfl)) ?_
    refine GE_ex (v := .pointer (some ⟨gT, 0 + 2, none⟩)) (ExtM.refl _ _) rfl rfl rfl (fun u hu hf => r_fieldAddr (rho_base rfl rfl) fld35_2) ?_
    refine GE_ex (v := .int .i64 (f 1)) (ExtM.refl _ _) rfl rfl rfl (fun u hu hf => r_load (rho_env rfl) on3 (hu.cell k2)) ?_
    refine GE_ex (v := .bool true) (ExtM.refl _ _) rfl rfl rfl (fun u hu hf => (r_lssI (rho_env rfl) rho_const).trans (by rw [decide_eq_true hn])) ?_
    refine GE_ex (v := .bool true) (ExtM.refl _ _) rfl rfl rfl (fun u hu hf => r_pickF (rho_env rfl) (rho_env rfl)) ?_
    refine GE_ex (v := .bool true) (ExtM.refl _ _) rfl rfl rfl (fun u hu hf => r_move (rho_env rfl)) ?_
    refine GE_skip rfl rfl rfl ?_
    refine GE_skip rfl rfl rfl ?_
    refine GE_skip rfl rfl rfl ?_
    refine GE_ex (v := .bool true) (ExtM.refl _ _) rfl rfl rfl (fun u hu hf => r_pickT (rho_env rfl) rho_const) ?_
    refine GE_ex (v := .bool true) (ExtM.refl _ _) rfl rfl rfl (fun u hu hf => r_move (rho_env rfl)) ?_
    refine GE_skip rfl rfl rfl ?_
    refine GE_skip rfl rfl rfl ?_
    refine GE_skip rfl rfl rfl ?_
    refine GE_ex (v := .bool true) (ExtM.refl _ _) rfl rfl rfl (fun u hu hf => r_pickT (rho_env rfl) rho_const) ?_
    refine GE_ex (v := .bool true) (ExtM.refl _ _) rfl rfl rfl (fun u hu hf => r_move (rho_env rfl)) ?_
    refine GE_skip rfl rfl rfl ?_
    refine GE_skip rfl rfl rfl ?_
    refine GE_skip rfl rfl rfl ?_
    refine GE_skip rfl rfl rfl ?_
    refine GE_skip rfl rfl rfl ?_
    refine GE_skip rfl rfl rfl ?_
    refine GE_skip rfl rfl rfl ?_
    refine GE_ex (v := .bool true) (ExtM.refl _ _) rfl rfl rfl (fun u hu hf => r_pickT (rho_env rfl) rho_const) ?_
    refine GE_nil fun wb hu hf => ?_
    rw [withEnv_norm (rfl : setsL _ 0 _ = [_, _, _, _, _, _, _, _, _, _, _, _, _, _, _, _, _, _, _, _, _, _, _, _, _, _, _, _, _, _, _, _, _, _, _, _, _, _, _, _, _, _, _, _, _, _, _, _, _, _, _, _, _, _, _, _, _, _, _, _, _, _, _, _, _, _, _, _, _, _, _, _, _, _, _, _, _, _, _, _, _, _, _, _, _, _, _, _])]
    clear hf
    have hZ5 := hZ.extM (bt := 5) (by decide) hu
    have hbw5 := hbw4.trans (hu.below.mono hbw4.size)
    clear hu k0 k1 k2 k3 k4 hTok hbw4 hZ
    go_wp2_with (with_reducible refine stop_st 4 86 ?_)
    refine Stop.go (wpList_store_blk rfl rfl rfl rfl hZ5 rfl (size35 _ _ _ _ _) (by simp [Value.oneCell']) ?_)
    intro wz hRz hOz
    have hbwz := hbw5.trans (hOz.below (Nat.le_refl _) hbw5.size)
    clear hOz
    go_wp2
    exact bodyPost_ret (results_row_tmp rfl _ _ w.heap.size 35 zeroTok (0, 0) _ rfl hRz Try.underlying35 rfl (size35 _ _ _ _ _)) rfl ⟨by rw [HZ.out]; rfl, hbwz⟩
  have hp1 : 0 ≤ f 1 := by omega
  clear hn
  by_cases hn : f 2 < 0
  · have HZ : Hid (R = (zeroTok, false)) := Lib.hid (by rw [HR2.out, if_pos (by omega)])
    refine wp_region_GX 5 (fun ix => (lookL [.pointer (some ⟨gT, 0 + 0, none⟩), .string ⟨nm.toArray⟩, .bool true, .bool false, .bool false, .pointer (some ⟨gT, 0 + 1, none⟩), .int .i64 (f 0), .bool false, .bool false, .bool false, .pointer (some ⟨gT, 0 + 2, none⟩), .int .i64 (f 1), .bool false, .bool false, .bool false, .pointer (some ⟨gT, 0 + 3, none⟩), .int .i64 (f 2), .bool true, .bool true, .bool true, undef, undef, undef, .bool true, .bool true, undef, undef, undef, undef, undef, undef, undef, .bool true] ix).getD undef) (by kernel_rfl) (by kernel_rfl) (by kernel_rfl) ?_
    refine GE_ex (v := .pointer (some ⟨gT, 0 + 0, none⟩)) (ExtM.refl _ _) rfl rfl rfl (fun u hu hf => r_fieldAddr (rho_base rfl rfl) fld35_0) ?_
    refine GE_ex (v := .string ⟨nm.toArray⟩) (ExtM.refl _ _) rfl rfl rfl (fun u hu hf => r_load (rho_env rfl) on9 (hu.cell k0)) ?_
    refine GE_call (v := .bool true) (f := 30) (args := #[.string ⟨nm.toArray⟩]) rfl rfl rfl (fun u => r_call pf30 (map1 (rho_env rfl)) rfl) (fun u hu hf => ?_) ?_
    · refine (wname_any nm u (by have := HNL.out; omega)).mono ?_
      rintro _ u' ⟨rfl, rfl⟩
      exact ⟨by rw [HND.out], ExtM.refl _ _ _⟩
    refine GE_ex (v := .bool false) (ExtM.refl _ _) rfl rfl rfl (fun u hu hf => r_not (a := true) (rho_env rfl)) ?_
    refine GE_ex (v := .bool false) (ExtM.refl _ _) rfl rfl rfl (fun u hu hf => r_move (rho_env rfl)) ?_
    refine GE_ex (v := .pointer (some ⟨gT, 0 + 1, none⟩)) (ExtM.refl _ _) rfl rfl rfl (fun u hu hf => r_fieldAddr (rho_base rfl rfl) fld35_1) ?_
    refine GE_ex (v := .int .i64 (f 0)) (ExtM.refl _ _) rfl rfl rfl (fun u hu hf => r_load (rho_env rfl) on3 (hu.cell k1)) ?_
    refine GE_ex (v := .bool false) (ExtM.refl _ _) rfl rfl rfl (fun u hu hf => (r_lssI (rho_env rfl) rho_const).trans (by rw [decide_eq_false (by omega)])) ?_
    refine GE_ex (v := .bool false) (ExtM.refl _ _) rfl rfl rfl (fun u hu hf => r_pickF (rho_env rfl) (rho_env rfl)) ?_
    refine GE_ex (v := .bool false) (ExtM.refl _ _) rfl rfl rfl (fun u hu hf => r_move (rho_env rfl)) ?_
    refine GE_ex (v := .pointer (some ⟨gT, 0 + 2, none⟩)) (ExtM.refl _ _) rfl rfl rfl (fun u hu hf => r_fieldAddr (rho_base rfl rfl) fld35_2) ?_
    refine GE_ex (v := .int .i64 (f 1)) (ExtM.refl _ _) rfl rfl rfl (fun u hu hf => r_load (rho_env rfl) on3 (hu.cell k2)) ?_
    refine GE_ex (v := .bool false) (ExtM.refl _ _) rfl rfl rfl (fun u hu hf => (r_lssI (rho_env rfl) rho_const).trans (by rw [decide_eq_false (by omega)])) ?_
    refine GE_ex (v := .bool false) (ExtM.refl _ _) rfl rfl rfl (fun u hu hf => r_pickF (rho_env rfl) (rho_env rfl)) ?_
    refine GE_ex (v := .bool false) (ExtM.refl _ _) rfl rfl rfl (fun u hu hf => r_move (rho_env rfl)) ?_
    refine GE_ex (v := .pointer (some ⟨gT, 0 + 3, none⟩)) (ExtM.refl _ _) rfl rfl rfl (fun u hu hf => r_fieldAddr (rho_base rfl rfl) fld35_3) ?_
    refine GE_ex (v := .int .i64 (f 2)) (ExtM.refl _ _) rfl rfl rfl (fun u hu hf => r_load (rho_env rfl) on3 (hu.cell k3)) ?_
    refine GE_ex (v := .bool true) (ExtM.refl _ _) rfl rfl rfl (fun u hu hf => (r_lssI (rho_env rfl) rho_const).trans (by rw [decide_eq_true hn])) ?_
    refine GE_ex (v := .bool true) (ExtM.refl _ _) rfl rfl rfl (fun u hu hf => r_pickF (rho_env rfl) (rho_env rfl)) ?_
    refine GE_ex (v := .bool true) (ExtM.refl _ _) rfl rfl rfl (fun u hu hf => r_move (rho_env rfl)) ?_
    refine GE_skip rfl rfl rfl ?_
    refine GE_skip rfl rfl rfl ?_
    refine GE_skip rfl rfl rfl ?_
    refine GE_ex (v := .bool true) (ExtM.refl _ _) rfl rfl rfl (fun u hu hf => r_pickT (rho_env rfl) rho_const) ?_
    refine GE_ex (v := .bool true) (ExtM.refl _ _) rfl rfl rfl (fun u hu hf => r_move (rho_env rfl)) ?_
    refine GE_skip rfl rfl rfl ?_
    refine GE_skip rfl rfl rfl ?_
    refine GE_skip rfl rfl rfl ?_
    refine GE_skip rfl rfl rfl ?_
    refine GE_skip rfl rfl rfl ?_
    refine GE_skip rfl rfl rfl ?_
    refine GE_skip rfl rfl rfl ?_
    refine GE_ex (v := .bool true) (ExtM.refl _ _) rfl rfl rfl (fun u hu hf => r_pickT (rho_env rfl) rho_const) ?_
    refine GE_nil fun wb hu hf => ?_
    rw [withEnv_norm (rfl : setsL _ 0 _ = [_, _, _, _, _, _, _, _, _, _, _, _, _, _, _, _, _, _, _, _, _, _, _, _, _, _, _, _, _, _, _, _, _, _, _, _, _, _, _, _, _, _, _, _, _, _, _, _, _, _, _, _, _, _, _, _, _, _, _, _, _, _, _, _, _, _, _, _, _, _, _, _, _, _, _, _, _, _, _, _, _, _, _, _, _, _, _, _])]
    clear hf
    have hZ5 := hZ.extM (bt := 5) (by decide) hu
    have hbw5 := hbw4.trans (hu.below.mono hbw4.size)
    clear hu k0 k1 k2 k3 k4 hTok hbw4 hZ
    go_wp2_with (with_reducible refine stop_st 4 86 ?_)
    refine Stop.go (wpList_store_blk rfl rfl rfl rfl hZ5 rfl (size35 _ _ _ _ _) (by simp [Value.oneCell']) ?_)
    intro wz hRz hOz
    have hbwz := hbw5.trans (hOz.below (Nat.le_refl _) hbw5.size)
    clear hOz
    go_wp2
    exact bodyPost_ret (results_row_tmp rfl _ _ w.heap.size 35 zeroTok (0, 0) _ rfl hRz Try.underlying35 rfl (size35 _ _ _ _ _)) rfl ⟨by rw [HZ.out]; rfl, hbwz⟩
  have hp2 : 0 ≤ f 2 := by omega
  clear hn
  by_cases hn : f 3 < 0
  · have HZ : Hid (R = (zeroTok, false)) := Lib.hid (by rw [HR2.out, if_pos (by omega)])
    refine wp_region_GX 5 (fun ix => (lookL [.pointer (some ⟨gT, 0 + 0, none⟩), .string ⟨nm.toArray⟩, .bool true, .bool false, .bool false, .pointer (some ⟨gT, 0 + 1, none⟩), .int .i64 (f 0), .bool false, .bool false, .bool false, .pointer (some ⟨gT, 0 + 2, none⟩), .int .i64 (f 1), .bool false, .bool false, .bool false, .pointer (some ⟨gT, 0 + 3, none⟩), .int .i64 (f 2), .bool false, .bool false, .bool false, .pointer (some ⟨gT, 0 + 4, none⟩), .int .i64 (f 3), .bool true, .bool true, .bool true, undef, undef, undef, undef, undef, undef, undef, .bool true] ix).getD undef) (by kernel_rfl) (by kernel_rfl) (by kernel_rfl) ?_
    refine GE_ex (v := .pointer (some ⟨gT, 0 + 0, none⟩)) (ExtM.refl _ _) rfl rfl rfl (fun u hu hf => r_fieldAddr (rho_base rfl rfl) fld35_0) ?_
    refine GE_ex (v := .string ⟨nm.toArray⟩) (ExtM.refl _ _) rfl rfl rfl (fun u hu hf => r_load (rho_env rfl) on9 (hu.cell k0)) ?_
    refine GE_call (v := .bool true) (f := 30) (args := #[.string ⟨nm.toArray⟩]) rfl rfl rfl (fun u => r_call pf30 (map1 (rho_env rfl)) rfl) (fun u hu hf => ?_) ?_
    · refine (wname_any nm u (by have := HNL.out; omega)).mono ?_
      rintro _ u' ⟨rfl, rfl⟩
      exact ⟨by rw [HND.out], ExtM.refl _ _ _⟩
    refine GE_ex (v := .bool false) (ExtM.refl _ _) rfl rfl rfl (fun u hu hf => r_not (a := true) (rho_env rfl)) ?_
    refine GE_ex (v := .bool false) (ExtM.refl _ _) rfl rfl rfl (fun u hu hf => r_move (rho_env rfl)) ?_
    refine GE_ex (v := .pointer (some ⟨gT, 0 + 1, none⟩)) (ExtM.refl _ _) rfl rfl rfl (fun u hu hf => r_fieldAddr (rho_base rfl rfl) fld35_1) ?_
    refine GE_ex (v := .int .i64 (f 0)) (ExtM.refl _ _) rfl rfl rfl (fun u hu hf => r_load (rho_env rfl) on3 (hu.cell k1)) ?_
    refine GE_ex (v := .bool false) (ExtM.refl _ _) rfl rfl rfl (fun u hu hf => (r_lssI (rho_env rfl) rho_const).trans (by rw [decide_eq_false (by omega)])) ?_
    refine GE_ex (v := .bool false) (ExtM.refl _ _) rfl rfl rfl (fun u hu hf => r_pickF (rho_env rfl) (rho_env rfl)) ?_
    refine GE_ex (v := .bool false) (ExtM.refl _ _) rfl rfl rfl (fun u hu hf => r_move (rho_env rfl)) ?_
    refine GE_ex (v := .pointer (some ⟨gT, 0 + 2, none⟩)) (ExtM.refl _ _) rfl rfl rfl (fun u hu hf => r_fieldAddr (rho_base rfl rfl) fld35_2) ?_
    refine GE_ex (v := .int .i64 (f 1)) (ExtM.refl _ _) rfl rfl rfl (fun u hu hf => r_load (rho_env rfl) on3 (hu.cell k2)) ?_
    refine GE_ex (v := .bool false) (ExtM.refl _ _) rfl rfl rfl (fun u hu hf => (r_lssI (rho_env rfl) rho_const).trans (by rw [decide_eq_false (by omega)])) ?_
    refine GE_ex (v := .bool false) (ExtM.refl _ _) rfl rfl rfl (fun u hu hf => r_pickF (rho_env rfl) (rho_env rfl)) ?_
    refine GE_ex (v := .bool false) (ExtM.refl _ _) rfl rfl rfl (fun u hu hf => r_move (rho_env rfl)) ?_
    refine GE_ex (v := .pointer (some ⟨gT, 0 + 3, none⟩)) (ExtM.refl _ _) rfl rfl rfl (fun u hu hf => r_fieldAddr (rho_base rfl rfl) fld35_3) ?_
    refine GE_ex (v := .int .i64 (f 2)) (ExtM.refl _ _) rfl rfl rfl (fun u hu hf => r_load (rho_env rfl) on3 (hu.cell k3)) ?_
    refine GE_ex (v := .bool false) (ExtM.refl _ _) rfl rfl rfl (fun u hu hf => (r_lssI (rho_env rfl) rho_const).trans (by rw [decide_eq_false (by omega)])) ?_
    refine GE_ex (v := .bool false) (ExtM.refl _ _) rfl rfl rfl (fun u hu hf => r_pickF (rho_env rfl) (rho_env rfl)) ?_
    refine GE_ex (v := .bool false) (ExtM.refl _ _) rfl rfl rfl (fun u hu hf => r_move (rho_env rfl)) ?_
    refine GE_ex (v := .pointer (some ⟨gT, 0 + 4, none⟩)) (ExtM.refl _ _) rfl rfl rfl (fun u hu hf => r_fieldAddr (rho_base rfl rfl) fld35_4) ?_
    refine GE_ex (v := .int .i64 (f 3)) (ExtM.refl _ _) rfl rfl rfl (fun u hu hf => r_load (rho_env rfl) on3 (hu.cell k4)) ?_
    refine GE_ex (v := .bool true) (ExtM.refl _ _) rfl rfl rfl (fun u hu hf => (r_lssI (rho_env rfl) rho_const).trans (by rw [decide_eq_true hn])) ?_
    refine GE_ex (v := .bool true) (ExtM.refl _ _) rfl rfl rfl (fun u hu hf => r_pickF (rho_env rfl) (rho_env rfl)) ?_
    refine GE_ex (v := .bool true) (ExtM.refl _ _) rfl rfl rfl (fun u hu hf => r_move (rho_env rfl)) ?_
    refine GE_skip rfl rfl rfl ?_
    refine GE_skip rfl rfl rfl ?_
    refine GE_skip rfl rfl rfl ?_
    refine GE_skip rfl rfl rfl ?_
    refine GE_skip rfl rfl rfl ?_
    refine GE_skip rfl rfl rfl ?_
    refine GE_skip rfl rfl rfl ?_
    refine GE_ex (v := .bool true) (ExtM.refl _ _) rfl rfl rfl (fun u hu hf => r_pickT (rho_env rfl) rho_const) ?_
    refine GE_nil fun wb hu hf => ?_
    rw [withEnv_norm (rfl : setsL _ 0 _ = [_, _, _, _, _, _, _, _, _, _, _, _, _, _, _, _, _, _, _, _, _, _, _, _, _, _, _, _, _, _, _, _, _, _, _, _, _, _, _, _, _, _, _, _, _, _, _, _, _, _, _, _, _, _, _, _, _, _, _, _, _, _, _, _, _, _, _, _, _, _, _, _, _, _, _, _, _, _, _, _, _, _, _, _, _, _, _, _])]
    clear hf
    have hZ5 := hZ.extM (bt := 5) (by decide) hu
    have hbw5 := hbw4.trans (hu.below.mono hbw4.size)
    clear hu k0 k1 k2 k3 k4 hTok hbw4 hZ
    go_wp2_with (with_reducible refine stop_st 4 86 ?_)
    refine Stop.go (wpList_store_blk rfl rfl rfl rfl hZ5 rfl (size35 _ _ _ _ _) (by simp [Value.oneCell']) ?_)
    intro wz hRz hOz
    have hbwz := hbw5.trans (hOz.below (Nat.le_refl _) hbw5.size)
    clear hOz
    go_wp2
    exact bodyPost_ret (results_row_tmp rfl _ _ w.heap.size 35 zeroTok (0, 0) _ rfl hRz Try.underlying35 rfl (size35 _ _ _ _ _)) rfl ⟨by rw [HZ.out]; rfl, hbwz⟩
  have hp3 : 0 ≤ f 3 := by omega
  clear hn
  have hR5 := HR2.out
  rw [if_neg (by omega), HND.out, if_neg (by decide)] at hR5
  obtain ⟨I, hI⟩ : ∃ I, I = issueB key nm (f 0) (f 1) (f 2) (f 3) := ⟨_, rfl⟩
  rw [← hI] at hR5
  have HI := Lib.hid hI
  have HR5 := Lib.hid hR5
  clear hI hR5
  refine wp_region_GE 0 (fun _ => false) (fun j => !(j == 27)) (fun ix => (lookL [.pointer (some ⟨gT, 0 + 0, none⟩), .string ⟨nm.toArray⟩, .bool true, .bool false, .bool false, .pointer (some ⟨gT, 0 + 1, none⟩), .int .i64 (f 0), .bool false, .bool false, .bool false, .pointer (some ⟨gT, 0 + 2, none⟩), .int .i64 (f 1), .bool false, .bool false, .bool false, .pointer (some ⟨gT, 0 + 3, none⟩), .int .i64 (f 2), .bool false, .bool false, .bool false, .pointer (some ⟨gT, 0 + 4, none⟩), .int .i64 (f 3), .bool false, .bool false, .bool false, (.slice ka key.length kc), .agg (tokV nm (f 0) (f 1) (f 2) (f 3)), undef, .string ⟨I.toArray⟩, (.slice (some ⟨g, off, none⟩) b.length bc), .string ⟨b.toArray⟩, .bool (I != b), .bool (I != b)] ix).getD undef) (ExtM 5 wa.heap.size) (fun _ j v u => j = 27 → Byt u v I) (by kernel_rfl) (by kernel_rfl) (by kernel_rfl) (by kernel_rfl) (ExtM.refl _ _) (fun _ _ _ => ExtM.trans) (ExtM.drew _ _ _) (fun _ _ _ _ _ hu hv hj => (hv hj).extM hu) (fun _ _ _ _ _ _ hv => hv) fun x => ?_
  refine GE_ex (v := .pointer (some ⟨gT, 0 + 0, none⟩)) (ExtM.refl _ _) rfl rfl rfl (fun u hu hf => r_fieldAddr (rho_base rfl rfl) fld35_0) ?_
  refine GE_ex (v := .string ⟨nm.toArray⟩) (ExtM.refl _ _) rfl rfl rfl (fun u hu hf => r_load (rho_env rfl) on9 (hu.cell k0)) ?_
  refine GE_call (v := .bool true) (f := 30) (args := #[.string ⟨nm.toArray⟩]) rfl rfl rfl (fun u => r_call pf30 (map1 (rho_env rfl)) rfl) (fun u hu hf => ?_) ?_
  · refine (wname_any nm u (by have := HNL.out; omega)).mono ?_
    rintro _ u' ⟨rfl, rfl⟩
    exact ⟨by rw [HND.out], ExtM.refl _ _ _⟩
  refine GE_ex (v := .bool false) (ExtM.refl _ _) rfl rfl rfl (fun u hu hf => r_not (a := true) (rho_env rfl)) ?_
  refine GE_ex (v := .bool false) (ExtM.refl _ _) rfl rfl rfl (fun u hu hf => r_move (rho_env rfl)) ?_
  refine GE_ex (v := .pointer (some ⟨gT, 0 + 1, none⟩)) (ExtM.refl _ _) rfl rfl rfl (fun u hu hf => r_fieldAddr (rho_base rfl rfl) fld35_1) ?_
  refine GE_ex (v := .int .i64 (f 0)) (ExtM.refl _ _) rfl rfl rfl (fun u hu hf => r_load (rho_env rfl) on3 (hu.cell k1)) ?_
  refine GE_ex (v := .bool false) (ExtM.refl _ _) rfl rfl rfl (fun u hu hf => (r_lssI (rho_env rfl) rho_const).trans (by rw [decide_eq_false (by omega)])) ?_
  refine GE_ex (v := .bool false) (ExtM.refl _ _) rfl rfl rfl (fun u hu hf => r_pickF (rho_env rfl) (rho_env rfl)) ?_
  refine GE_ex (v := .bool false) (ExtM.refl _ _) rfl rfl rfl (fun u hu hf => r_move (rho_env rfl)) ?_
  refine GE_ex (v := .pointer (some ⟨gT, 0 + 2, none⟩)) (ExtM.refl _ _) rfl rfl rfl (fun u hu hf => r_fieldAddr (rho_base rfl rfl) fld35_2) ?_
  refine GE_ex (v := .int .i64 (f 1)) (ExtM.refl _ _) rfl rfl rfl (fun u hu hf => r_load (rho_env rfl) on3 (hu.cell k2)) ?_
  refine GE_ex (v := .bool false) (ExtM.refl _ _) rfl rfl rfl (fun u hu hf => (r_lssI (rho_env rfl) rho_const).trans (by rw [decide_eq_false (by omega)])) ?_
  refine GE_ex (v := .bool false) (ExtM.refl _ _) rfl rfl rfl (fun u hu hf => r_pickF (rho_env rfl) (rho_env rfl)) ?_
  refine GE_ex (v := .bool false) (ExtM.refl _ _) rfl rfl rfl (fun u hu hf => r_move (rho_env rfl)) ?_
  refine GE_ex (v := .pointer (some ⟨gT, 0 + 3, none⟩)) (ExtM.refl _ _) rfl rfl rfl (fun u hu hf => r_fieldAddr (rho_base rfl rfl) fld35_3) ?_
  refine GE_ex (v := .int .i64 (f 2)) (ExtM.refl _ _) rfl rfl rfl (fun u hu hf => r_load (rho_env rfl) on3 (hu.cell k3)) ?_
  refine GE_ex (v := .bool false) (ExtM.refl _ _) rfl rfl rfl (fun u hu hf => (r_lssI (rho_env rfl) rho_const).trans (by rw [decide_eq_false (by omega)])) ?_
  refine GE_ex (v := .bool false) (ExtM.refl _ _) rfl rfl rfl (fun u hu hf => r_pickF (rho_env rfl) (rho_env rfl)) ?_
  refine GE_ex (v := .bool false) (ExtM.refl _ _) rfl rfl rfl (fun u hu hf => r_move (rho_env rfl)) ?_
  refine GE_ex (v := .pointer (some ⟨gT, 0 + 4, none⟩)) (ExtM.refl _ _) rfl rfl rfl (fun u hu hf => r_fieldAddr (rho_base rfl rfl) fld35_4) ?_
  refine GE_ex (v := .int .i64 (f 3)) (ExtM.refl _ _) rfl rfl rfl (fun u hu hf => r_load (rho_env rfl) on3 (hu.cell k4)) ?_
  refine GE_ex (v := .bool false) (ExtM.refl _ _) rfl rfl rfl (fun u hu hf => (r_lssI (rho_env rfl) rho_const).trans (by rw [decide_eq_false (by omega)])) ?_
  refine GE_ex (v := .bool false) (ExtM.refl _ _) rfl rfl rfl (fun u hu hf => r_pickF (rho_env rfl) (rho_env rfl)) ?_
  refine GE_ex (v := .bool false) (ExtM.refl _ _) rfl rfl rfl (fun u hu hf => r_move (rho_env rfl)) ?_
  refine GE_ex (v := (.slice ka key.length kc)) (ExtM.refl _ _) rfl rfl rfl (fun u hu hf => r_move (rho_base rfl rfl)) ?_
  refine GE_ex (v := .agg (tokV nm (f 0) (f 1) (f 2) (f 3))) (ExtM.refl _ _) rfl rfl rfl (fun u hu hf => r_loadBlk (rho_base rfl rfl) (hTok.extM (bt := 5) (by decide) hu) Try.underlying35 rfl (size35 _ _ _ _ _)) ?_
  refine GE_callp (f := 23) (args := #[(.slice ka key.length kc), .agg (tokV nm (f 0) (f 1) (f 2) (f 3))]) rfl rfl (fun u => r_call pf23 (map2 (rho_env rfl) (rho_env rfl)) rfl) (fun u hu hf => ?_) ?_
  · refine (rissue_any _ key nm (f 0) (f 1) (f 2) (f 3) u (hkw.extM hu) hkl (by have := HNL.out; omega)).mono ?_
    rintro _ u' ⟨iv, rfl, hI, hb⟩
    exact ⟨iv, rfl, ExtM.of hb hu.below.size, fun _ => by rw [HI.out]; exact hI⟩
  refine GE_ex (v := .string ⟨I.toArray⟩) (ExtM.refl _ _) rfl rfl rfl (fun u hu hf => r_conv (rho_env rfl) (Byt.str ((hf 27 rfl (by decide) rfl) rfl) Try.underlying23 Try.underlying5 Try.underlying9)) ?_
  refine GE_ex (v := (.slice (some ⟨g, off, none⟩) b.length bc)) (ExtM.refl _ _) rfl rfl rfl (fun u hu hf => r_move (rho_base rfl rfl)) ?_
  refine GE_ex (v := .string ⟨b.toArray⟩) (ExtM.refl _ _) rfl rfl rfl (fun u hu hf => r_conv (rho_env rfl) (Byt.str (hbw'.extM hu) Try.underlying23 Try.underlying5 Try.underlying9)) ?_
  refine GE_ex (v := .bool (I != b)) (ExtM.refl _ _) rfl rfl rfl (fun u hu hf => r_neqS (rho_env rfl) (rho_env rfl)) ?_
  refine GE_ex (v := .bool (I != b)) (ExtM.refl _ _) rfl rfl rfl (fun u hu hf => r_pickF (rho_env rfl) (rho_env rfl)) ?_
  refine GE_nil fun wb hu hf => ?_
  rw [withEnv_norm (rfl : setsL _ 0 _ = [_, _, _, _, _, _, _, _, _, _, _, _, _, _, _, _, _, _, _, _, _, _, _, _, _, _, _, _, _, _, _, _, _, _, _, _, _, _, _, _, _, _, _, _, _, _, _, _, _, _, _, _, _, _, _, _, _, _, _, _, _, _, _, _, _, _, _, _, _, _, _, _, _, _, _, _, _, _, _, _, _, _, _, _, _, _, _, _])]
  clear hf
  have hZ5 := hZ.extM (bt := 5) (by decide) hu
  have hbw5 := hbw4.trans (hu.below.mono hbw4.size)
  have hTok5 := hTok.extM (bt := 5) (by decide) hu
  clear hu k0 k1 k2 k3 k4 hTok hbw4 hZ hkw hbw'
  cases hIb : I == b with
  | false =>
    have HZ : Hid (R = (zeroTok, false)) := Lib.hid (by rw [HR5.out, if_pos hIb])
    have hne : (I != b) = true := by unfold bne; rw [hIb]; rfl
    rw [hne]
    clear hne hIb
    go_wp2_with (with_reducible refine stop_st 4 86 ?_)
    refine Stop.go (wpList_store_blk rfl rfl rfl rfl hZ5 rfl (size35 _ _ _ _ _) (by simp [Value.oneCell']) ?_)
    intro wz hRz hOz
    have hbwz := hbw5.trans (hOz.below (Nat.le_refl _) hbw5.size)
    clear hOz
    go_wp2
    exact bodyPost_ret (results_row_tmp rfl _ _ w.heap.size 35 zeroTok (0, 0) _ rfl hRz Try.underlying35 rfl (size35 _ _ _ _ _)) rfl ⟨by rw [HZ.out]; rfl, hbwz⟩
  | true =>
    have HT : Hid (R = (tokV nm (f 0) (f 1) (f 2) (f 3), true)) := Lib.hid (by rw [HR5.out, if_neg (by rw [hIb]; decide)])
    have hne : (I != b) = false := by unfold bne; rw [hIb]; rfl
    rw [hne]
    clear hne hIb
    go_wp2_with (with_reducible refine stop_at 87 ?_)
    refine Stop.go (wpList_val rfl (r_loadBlk rfl hTok5 Try.underlying35 rfl (size35 _ _ _ _ _)) ?_)
    go_wp2_with (with_reducible refine stop_st 4 87 ?_)
    refine Stop.go (wpList_store_blk rfl rfl rfl rfl hZ5 rfl (size35 _ _ _ _ _) (by simp [tokV, Value.oneCell']) ?_)
    intro wz hRz hOz
    have hbwz := hbw5.trans (hOz.below (Nat.le_refl _) hbw5.size)
    clear hOz
    go_wp2
    exact bodyPost_ret (results_row_tmp rfl _ _ w.heap.size 35 _ (0, 0) _ rfl hRz Try.underlying35 rfl (size35 _ _ _ _ _)) rfl ⟨by rw [HT.out]; rfl, hbwz⟩
theorem rread_any (kv bv : Value) (key b : List UInt8) (w : World) (hk : Byt w kv key) (hb : Byt w bv b) (hkl : key.length ≤ 1000) :
    Calls Try.prog 24 #[kv, bv] w fun e' w' => e' = .returned (.tuple #[.agg (readM key b).1, .bool (readM key b).2]) ∧ Below w.heap.size w w' := by
  cases hy : b[0]? with
  | none =>
    have h0 : b = [] := by
      cases b with
      | nil => rfl
      | cons a l => simp at hy
    have hR : readM key b = (zeroTok, false) := by unfold readM; rw [hy]
    rw [hR]
    exact rread_len kv bv b w hb (.inl h0)
  | some y =>
    by_cases hbl : b.length = 1 + y.toNat + 48
    · obtain ⟨ba, bc, rfl, _, _⟩ := hb.len
      exact rread_main kv key b y ba bc w hk hb hkl hy hbl
    · have hR : readM key b = (zeroTok, false) := by unfold readM; rw [hy]; simp only [ne_eq, hbl, not_false_eq_true, if_true]
      rw [hR]
      exact rread_len kv bv b w hb (.inr ⟨y, hy, hbl⟩)
theorem pf24 : plainFn Try.prog 24 = true := by kernel_rfl
end Go.Proofs.Ythpjihiikkhcjaa
namespace Go.Sp
open Go.RowKit
theorem b8_nat (x : Int) : ((b8 x).toNat : Int) = x % 256 := by
  show ((UInt8.ofNat (x % 2 ^ 8).toNat).toNat : Int) = x % 256
  rw [UInt8.toNat_ofNat']
  omega
theorem stp_val (m : Int) (y : UInt8) (h0 : 0 ≤ m) (h1 : m < 72057594037927936) : stp m y = IntKind.i64.wrap (m * 256 + y.toNat) := by
  obtain ⟨a, rfl⟩ := Int.eq_ofNat_of_zero_le h0
  have hy := y.toNat_lt
  unfold stp
  show IntKind.i64.wrap ((BitVec.ofInt 64 (wrap64 ((a : Int) * 256)) ||| BitVec.ofInt 64 (y.toNat : Int)).toNat : Int) = _
  have e1 : (BitVec.ofInt 64 (wrap64 ((a : Int) * 256))).toNat = a <<< 8 := by
    rw [BitVec.toNat_ofInt, Nat.shiftLeft_eq]
    unfold wrap64
    omega
  have e2 : (BitVec.ofInt 64 (y.toNat : Int)).toNat = y.toNat := by
    rw [BitVec.ofInt_natCast, BitVec.toNat_ofNat]; exact Nat.mod_eq_of_lt (by omega)
  rw [BitVec.toNat_or, e1, e2, ← Nat.shiftLeft_add_eq_or_of_lt (by omega : y.toNat < 2 ^ 8), Nat.shiftLeft_eq]
  congr 1
theorem stp_in (m : Int) (y : UInt8) (h0 : 0 ≤ m) (h1 : m < 281474976710656) : stp m y = m * 256 + y.toNat := by
  have hy := y.toNat_lt
  rw [stp_val m y h0 (by omega), IntKind.wrap_i64]
  omega
theorem numB_eight (n : Int) (hn : -9223372036854775808 ≤ n ∧ n ≤ 9223372036854775807) : numB (eight n) = n := by
  have e : eight n = [b8 (n / 2 ^ 56), b8 (n / 2 ^ 48), b8 (n / 2 ^ 40), b8 (n / 2 ^ 32), b8 (n / 2 ^ 24), b8 (n / 2 ^ 16), b8 (n / 2 ^ 8), b8 (n / 2 ^ 0)] := rfl
  rw [e]
  unfold numB
  simp only [List.foldl_cons, List.foldl_nil]
  have s1 : stp 0 (b8 (n / 2 ^ 56)) = (n / 2 ^ 56) % 2 ^ 8 := by rw [stp_in _ _ (by omega) (by omega), b8_nat]; omega
  rw [s1]
  have s2 : stp ((n / 2 ^ 56) % 2 ^ 8) (b8 (n / 2 ^ 48)) = (n / 2 ^ 48) % 2 ^ 16 := by rw [stp_in _ _ (by omega) (by omega), b8_nat]; omega
  rw [s2]
  have s3 : stp ((n / 2 ^ 48) % 2 ^ 16) (b8 (n / 2 ^ 40)) = (n / 2 ^ 40) % 2 ^ 24 := by rw [stp_in _ _ (by omega) (by omega), b8_nat]; omega
  rw [s3]
  have s4 : stp ((n / 2 ^ 40) % 2 ^ 24) (b8 (n / 2 ^ 32)) = (n / 2 ^ 32) % 2 ^ 32 := by rw [stp_in _ _ (by omega) (by omega), b8_nat]; omega
  rw [s4]
  have s5 : stp ((n / 2 ^ 32) % 2 ^ 32) (b8 (n / 2 ^ 24)) = (n / 2 ^ 24) % 2 ^ 40 := by rw [stp_in _ _ (by omega) (by omega), b8_nat]; omega
  rw [s5]
  have s6 : stp ((n / 2 ^ 24) % 2 ^ 40) (b8 (n / 2 ^ 16)) = (n / 2 ^ 16) % 2 ^ 48 := by rw [stp_in _ _ (by omega) (by omega), b8_nat]; omega
  rw [s6]
  have s7 : stp ((n / 2 ^ 16) % 2 ^ 48) (b8 (n / 2 ^ 8)) = (n / 2 ^ 8) % 2 ^ 56 := by
    rw [stp_val _ _ (by omega) (by omega), b8_nat, IntKind.wrap_i64]; omega
  rw [s7, stp_val _ _ (by omega) (by omega), b8_nat, IntKind.wrap_i64]
  omega
theorem numAt_of (b X Y : List UInt8) (L k : Nat) (x : Int) (hx : -9223372036854775808 ≤ x ∧ x ≤ 9223372036854775807) (hb : b = X ++ (eight x ++ Y)) (hX : X.length = 1 + L + 8 * k) : numAt b L k = x := by
  unfold numAt
  rw [List.drop_take, ← hX, hb, List.drop_left' rfl, show X.length + 8 - X.length = 8 by omega, show (8 : Nat) = (eight x).length from (eight_length x).symm, List.take_left' rfl, numB_eight x hx]
theorem body_parts (nm : List UInt8) (i c e r : Int) : bodyB nm i c e r = [b8 (nm.length : Int)] ++ (nm ++ (eight i ++ (eight c ++ (eight e ++ eight r)))) := by
  simp [bodyB, cat]
/-- What is read of what was issued. -/
theorem read_issue (key nm : List UInt8) (i c e r : Int) (hl : nm.length ≤ 255) (hi : -9223372036854775808 ≤ i ∧ i ≤ 9223372036854775807) (hc : -9223372036854775808 ≤ c ∧ c ≤ 9223372036854775807) (he : -9223372036854775808 ≤ e ∧ e ≤ 9223372036854775807) (hr : -9223372036854775808 ≤ r ∧ r ≤ 9223372036854775807) :
    readM key (issueB key nm i c e r) = if i < 0 ∨ c < 0 ∨ e < 0 ∨ r < 0 then (zeroTok, false) else if namedM nm = false then (zeroTok, false) else (tokV nm i c e r, true) := by
  obtain ⟨M, hM⟩ : ∃ M, M = macB key [tokenS, bodyB nm i c e r] := ⟨_, rfl⟩
  have hMl : M.length = 16 := by rw [hM]; exact macB_length _ _
  have hI : issueB key nm i c e r = [b8 (nm.length : Int)] ++ (nm ++ (eight i ++ (eight c ++ (eight e ++ (eight r ++ M))))) := by
    unfold issueB
    rw [← hM, body_parts]
    simp
  have h8 : (b8 (nm.length : Int)).toNat = nm.length := by
    have := b8_nat (nm.length : Int)
    omega
  obtain ⟨b, hb⟩ : ∃ b, b = issueB key nm i c e r := ⟨_, rfl⟩
  have hbl : b.length = 1 + nm.length + 48 := by rw [hb, hI]; simp [eight_length, hMl]; omega
  have h0 : b[0]? = some (b8 (nm.length : Int)) := by rw [hb, hI]; rfl
  have hn : (b.take (1 + nm.length)).drop 1 = nm := by
    rw [hb, hI, List.drop_take, show 1 + nm.length - 1 = nm.length by omega]
    simp
  have n0 : numAt b nm.length 0 = i := numAt_of b ([b8 (nm.length : Int)] ++ nm) (eight c ++ (eight e ++ (eight r ++ M))) _ _ i hi (by rw [hb, hI]; simp) (by simp; omega)
  have n1 : numAt b nm.length 1 = c := numAt_of b ([b8 (nm.length : Int)] ++ nm ++ eight i) (eight e ++ (eight r ++ M)) _ _ c hc (by rw [hb, hI]; simp) (by simp [eight_length]; omega)
  have n2 : numAt b nm.length 2 = e := numAt_of b ([b8 (nm.length : Int)] ++ nm ++ eight i ++ eight c) (eight r ++ M) _ _ e he (by rw [hb, hI]; simp) (by simp [eight_length]; omega)
  have n3 : numAt b nm.length 3 = r := numAt_of b ([b8 (nm.length : Int)] ++ nm ++ eight i ++ eight c ++ eight e) M _ _ r hr (by rw [hb, hI]; simp) (by simp [eight_length]; omega)
  rw [← hb]
  unfold readM
  rw [h0]
  simp only [h8, hbl, ne_eq, not_true_eq_false, if_false, n0, n1, n2, n3, hn]
  rw [← hb]
  simp
def tokEq (nm : List UInt8) (i c e r : Int) (nm' : List UInt8) (i' c' e' r' : Int) : Bool := nm == nm' && (i == i' && (c == c' && (e == e' && r == r')))
theorem tokEq_self (nm : List UInt8) (i c e r : Int) : tokEq nm i c e r nm i c e r = true := by simp [tokEq]
theorem tokEq_iff (nm : List UInt8) (i c e r : Int) (nm' : List UInt8) (i' c' e' r' : Int) : tokEq nm i c e r nm' i' c' e' r' = true ↔ tokV nm i c e r = tokV nm' i' c' e' r' := by
  simp [tokEq, tokV]
theorem issue_inj (key nm : List UInt8) (i c e r : Int) (nm' : List UInt8) (i' c' e' r' : Int) (hl : nm.length ≤ 255) (hl' : nm'.length ≤ 255) (h : namedM nm = true) (h' : namedM nm' = true)
    (hi : 0 ≤ i ∧ i ≤ 9223372036854775807) (hc : 0 ≤ c ∧ c ≤ 9223372036854775807) (he : 0 ≤ e ∧ e ≤ 9223372036854775807) (hr : 0 ≤ r ∧ r ≤ 9223372036854775807)
    (hi' : 0 ≤ i' ∧ i' ≤ 9223372036854775807) (hc' : 0 ≤ c' ∧ c' ≤ 9223372036854775807) (he' : 0 ≤ e' ∧ e' ≤ 9223372036854775807) (hr' : 0 ≤ r' ∧ r' ≤ 9223372036854775807) :
    (issueB key nm i c e r == issueB key nm' i' c' e' r') = tokEq nm i c e r nm' i' c' e' r' := by
  rw [Bool.eq_iff_iff, beq_iff_eq, tokEq_iff]
  constructor
  · intro hq
    have h1 := read_issue key nm i c e r hl (by omega) (by omega) (by omega) (by omega)
    have h2 := read_issue key nm' i' c' e' r' hl' (by omega) (by omega) (by omega) (by omega)
    rw [if_neg (by omega), h, if_neg (by decide)] at h1
    rw [if_neg (by omega), h', if_neg (by decide)] at h2
    rw [hq, h2] at h1
    exact (Prod.mk.inj h1).1.symm
  · intro hq
    simp [tokV] at hq
    obtain ⟨rfl, rfl, rfl, rfl, rfl⟩ := hq
    rfl
end Go.Sp
namespace Go.Proofs.Ythpjihiikkhcjaa
open Go.RowKit Go.Sp
theorem guard35 : Try.prog.eqGuardType Try.prog.depth 35 = false := by kernel_rfl
theorem r_eqTok {ρ : Operand → Value} {d ty pos aft g t'} {x y : Operand} {w : World} {nm nm' : List UInt8} {i c e r i' c' e' r' : Int} (hx : ρ x = .agg (tokV nm i c e r)) (hy : ρ y = .agg (tokV nm' i' c' e' r')) :
    (execOp ρ ⟨d, .binOp .eql 35 x y t', ty, pos, aft, g⟩).run Try.prog w = .ok (.value (.bool (tokEq nm i c e r nm' i' c' e' r'))) w := by
  have h1 := run_eqGuard_agg (P := Try.prog) w .eql 35 x y (tokV nm i c e r) (tokV nm' i' c' e' r') guard35
  have h2 : (binOp .eql 35 (.agg (tokV nm i c e r)) (.agg (tokV nm' i' c' e' r'))).run Try.prog w = .ok (.bool (tokEq nm i c e r nm' i' c' e' r')) w := by
    unfold tokV tokEq
    go_simp
    repeat (first | rfl | split)
    all_goals simp_all
  simp only [execOp, hx, hy, Sem.run_bind, h1, h2, Result.andThen_ok, Sem.run_pure]
theorem r_neqTok {ρ : Operand → Value} {d ty pos aft g t'} {x y : Operand} {w : World} {nm nm' : List UInt8} {i c e r i' c' e' r' : Int} (hx : ρ x = .agg (tokV nm i c e r)) (hy : ρ y = .agg (tokV nm' i' c' e' r')) :
    (execOp ρ ⟨d, .binOp .neq 35 x y t', ty, pos, aft, g⟩).run Try.prog w = .ok (.value (.bool (!tokEq nm i c e r nm' i' c' e' r'))) w := by
  have h1 := run_eqGuard_agg (P := Try.prog) w .neq 35 x y (tokV nm i c e r) (tokV nm' i' c' e' r') guard35
  have h2 : (binOp .neq 35 (.agg (tokV nm i c e r)) (.agg (tokV nm' i' c' e' r'))).run Try.prog w = .ok (.bool (!tokEq nm i c e r nm' i' c' e' r')) w := by
    unfold tokV tokEq
    go_simp
    repeat (first | rfl | split)
    all_goals simp_all
  simp only [execOp, hx, hy, Sem.run_bind, h1, h2, Result.andThen_ok, Sem.run_pure]
end Go.Proofs.Ythpjihiikkhcjaa
