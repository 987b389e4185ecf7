/-
  A part of the proofs of this seat: laws of the walk, or contracts of the functions that the statements reach. No conditions but those that each theorem names.
-/
import Derived.Test.YtbbpcgodjncflaaWi
namespace Go.Sp
open Go.RowKit
theorem Lst.ofBlk {w : World} {g : Nat} {cs : Array Value} {t : TypeId} {ls : List (List UInt8)} (hB : Blk w g cs t) (hn : ls.length ≤ maxLen) (h : ∀ (i : Nat) (l : List UInt8), ls[i]? = some l → ∃ u, cs[i]? = some u ∧ Byt w u l) : Lst w (.slice (some ⟨g, 0, none⟩) ls.length ls.length) ls :=
  .inr ⟨g, 0, ls.length, rfl, Nat.le_refl _, hn, hB.lt, fun i l hi => by
    obtain ⟨u, hu, hb⟩ := h i l hi
    exact ⟨u, by rw [hB.cell, Nat.zero_add]; exact hu, hb⟩⟩
theorem Lst.two {w : World} {u v : Value} {k l : List UInt8} {t : TypeId} (h1 : Byt w u k) (h2 : Byt w v l) : Lst (w.alloc (.cells #[u, v] t)) (.slice (some ⟨w.heap.size, 0, none⟩) 2 2) [k, l] := by
  have e := (Below.refl w.heap.size w).alloc (Nat.le_refl _) (.cells #[u, v] t)
  refine Lst.ofBlk (ls := [k, l]) (Blk.new w _ t) (by simp [maxLen]) fun i m hi => ?_
  match i, hi with
  | 0, hi => simp at hi; subst hi; exact ⟨u, rfl, h1.ext e⟩
  | 1, hi => simp at hi; subst hi; exact ⟨v, rfl, h2.ext e⟩
theorem Lst.three {w : World} {u v x : Value} {k l m : List UInt8} {t : TypeId} (h1 : Byt w u k) (h2 : Byt w v l) (h3 : Byt w x m) : Lst (w.alloc (.cells #[u, v, x] t)) (.slice (some ⟨w.heap.size, 0, none⟩) 3 3) [k, l, m] := by
  have e := (Below.refl w.heap.size w).alloc (Nat.le_refl _) (.cells #[u, v, x] t)
  refine Lst.ofBlk (ls := [k, l, m]) (Blk.new w _ t) (by simp [maxLen]) fun i n hi => ?_
  match i, hi with
  | 0, hi => simp at hi; subst hi; exact ⟨u, rfl, h1.ext e⟩
  | 1, hi => simp at hi; subst hi; exact ⟨v, rfl, h2.ext e⟩
  | 2, hi => simp at hi; subst hi; exact ⟨x, rfl, h3.ext e⟩
theorem Lst.cut {w : World} {a : Option Addr} {L c : Nat} {ls : List (List UInt8)} (h : Lst w (.slice a L c) ls) (hi : Nat) (h2 : hi ≤ ls.length) : Lst w (cutV a c 0 hi) (ls.take hi) := by
  rcases h with ⟨h, rfl⟩ | ⟨g, off, cap, hv, k1, k2, k3, k4⟩
  · simp only [Value.slice.injEq] at h
    obtain ⟨rfl, rfl, rfl⟩ := h
    simp at h2
    subst h2
    exact .inl ⟨by simp [cutV, cutA], by simp⟩
  · simp only [Value.slice.injEq] at hv
    obtain ⟨rfl, rfl, rfl⟩ := hv
    have hlen : (ls.take hi).length = hi := by simp; omega
    have ha : cutA (some ⟨g, off, none⟩) c 0 = some ⟨g, off, none⟩ := by
      unfold cutA
      split
      · rfl
      · simp [Addr.add_mid]
    refine .inr ⟨g, off, c, by rw [cutV, ha, hlen]; simp, by omega, k2, k3, fun i l hi' => ?_⟩
    rw [List.getElem?_take] at hi'
    split at hi'
    · exact k4 i l hi'
    · cases hi'
theorem flat_le100 : ∀ (ls : List (List UInt8)) (n : Nat), (∀ l ∈ ls, l.length ≤ n) → (flat ls).length ≤ ls.length * (n + 8)
  | [], _, _ => by simp [flat]
  | l :: ls, n, h => by
    have h1 := h l (List.mem_cons_self ..)
    have h2 := flat_le100 ls n fun k hk => h k (List.mem_cons_of_mem _ hk)
    have e : flat (l :: ls) = (eight l.length ++ l) ++ flat ls := by simp [flat]
    rw [e, List.length_append, List.length_append, eight_length, List.length_cons, Nat.succ_mul]
    omega
end Go.Sp
namespace Go.Proofs.Ytbbpcgodjncflaa
open Go.RowKit Go.Sp
theorem sl1_39 : Sl1 Try.prog 39 29 := ⟨Try.underlying39, by
  obtain ⟨i, hi⟩ := info_of_underlying (P := Try.prog) Try.underlying29
  refine ⟨i, hi, ?_⟩
  have h : (Try.prog.info? 29).map (·.size) = some 1 := by kernel_rfl
  rw [hi] at h; simpa using h⟩
end Go.Proofs.Ytbbpcgodjncflaa
