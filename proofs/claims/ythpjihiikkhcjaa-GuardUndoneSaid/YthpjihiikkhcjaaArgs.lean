/-
  A part of the proofs of this seat: laws of the walk, or contracts of the functions that the statements reach. No conditions but those that each theorem names.
-/
import Derived.Test.YthpjihiikkhcjaaMem
import Derived.ProofKit
import Derived.OpenShut
namespace Go.Sp
open Go.RowKit Go.WideShapes
/-- What is told of a slice of whole numbers that came in. -/
def IsRow (k : IntKind) (w : World) (a : Option Addr) (len cap : Nat) (zs : List Int) : Prop :=
  (a = none ∧ len = 0 ∧ cap = 0 ∧ zs = []) ∨
  ∃ x, a = some x ∧ len ≤ cap ∧ cap ≤ maxLen ∧ zs.length = cap ∧ (∀ i, i < zs.length → w.cell? (x.add i) = some (.int k (zs.getD i 0))) ∧ ∀ n ∈ zs, (Lit.int k n).wf = true
/-- A slice value that reads as these numbers. -/
def Nums (w : World) (v : Value) (l : List Int) : Prop :=
  (v = .slice none 0 0 ∧ l = []) ∨
  ∃ g off cap, v = .slice (some ⟨g, off, none⟩) l.length cap ∧ l.length ≤ cap ∧ cap ≤ maxLen ∧ g < w.heap.size ∧ ∀ (i : Nat) (n : Int), l[i]? = some n → w.cell? ⟨g, off + i, none⟩ = some (.int .i64 n) ∧ -9223372036854775808 ≤ n ∧ n ≤ 9223372036854775807
theorem Nums.ext {w w' : World} {v : Value} {l : List Int} (h : Nums w v l) (e : Below w.heap.size w w') : Nums w' v l := by
  rcases h with h | ⟨g, off, cap, rfl, h1, h2, h3, h4⟩
  · exact .inl h
  · exact .inr ⟨g, off, cap, rfl, h1, h2, Nat.lt_of_lt_of_le h3 e.size, fun i n hi => ⟨(World.cell?_of_block (a := ⟨g, off + i, none⟩) (e.block g h3)).trans (h4 i n hi).1, (h4 i n hi).2⟩⟩
theorem addr_of_ok {P : Program} {W : World} {base : Nat} {t e : TypeId} (ht : P.underlying t = some (.slice e)) {x : Addr} {len cap : Nat} (h : Value.okWide P W .any base t (.slice (some x) len cap)) : ∃ g off, x = ⟨g, off, none⟩ ∧ g < W.heap.size := by
  simp only [Value.okWide, ht, Cell.okWide, Cell.ok] at h
  obtain ⟨_, _, _, hs, row, cells, hsh, _⟩ := h
  obtain ⟨g, off, spot⟩ := x
  simp only at hs
  subst hs
  refine ⟨g, off, rfl, ?_⟩
  unfold World.shape? at hsh
  rcases Nat.lt_or_ge g W.heap.size with h | h
  · exact h
  · simp [Array.getElem?_eq_none h] at hsh
theorem byt_of_row {P : Program} {W : World} {base : Nat} {t e : TypeId} (ht : P.underlying t = some (.slice e)) {a : Option Addr} {len cap : Nat} {zs : List Int} (hok : Value.okWide P W .any base t (.slice a len cap)) (h : IsRow .u8 W a len cap zs) :
    ∃ l : List UInt8, Byt W (.slice a len cap) l := by
  rcases h with ⟨rfl, rfl, rfl, _⟩ | ⟨x, rfl, hl, hm, hz, hc, hw⟩
  · exact ⟨[], Byt.nil _⟩
  · obtain ⟨g, off, rfl, hg⟩ := addr_of_ok ht hok
    have hlen : ((zs.take len).map b8).length = len := by simp; omega
    refine ⟨(zs.take len).map b8, .inr ⟨g, off, cap, by rw [hlen], by omega, hm, hg, fun i b hi => ?_⟩⟩
    have hi' : i < len := by rw [← hlen]; exact (List.getElem?_eq_some_iff.1 hi).1
    have hc' := hc i (by omega)
    rw [Addr.add_mid] at hc'
    rw [hc']
    have hzi : zs[i]? = some zs[i] := by simp
    rw [List.getElem?_map, List.getElem?_take, if_pos hi', hzi] at hi
    simp at hi
    have hwf := hw zs[i] (List.getElem_mem _)
    have hb := bounds_u8 hwf
    rw [← hi, List.getD_eq_getElem?_getD, hzi]
    congr 1
    simp only [Option.getD_some]
    rw [B_ofInt _ hb.1 (by omega)]
    congr 1
    unfold b8 UInt8.ofInt
    congr 1; omega
theorem nums_of_row {P : Program} {W : World} {base : Nat} {t e : TypeId} (ht : P.underlying t = some (.slice e)) {a : Option Addr} {len cap : Nat} {zs : List Int} (hok : Value.okWide P W .any base t (.slice a len cap)) (h : IsRow .i64 W a len cap zs) :
    ∃ l : List Int, Nums W (.slice a len cap) l := by
  rcases h with ⟨rfl, rfl, rfl, _⟩ | ⟨x, rfl, hl, hm, hz, hc, hw⟩
  · exact ⟨[], .inl ⟨rfl, rfl⟩⟩
  · obtain ⟨g, off, rfl, hg⟩ := addr_of_ok ht hok
    have hlen : (zs.take len).length = len := by simp; omega
    refine ⟨zs.take len, .inr ⟨g, off, cap, by rw [hlen], by omega, hm, hg, fun i n hi => ?_⟩⟩
    have hi' : i < len := by rw [← hlen]; exact (List.getElem?_eq_some_iff.1 hi).1
    have hc' := hc i (by omega)
    rw [Addr.add_mid] at hc'
    have hzi : zs[i]? = some zs[i] := by simp
    rw [List.getElem?_take, if_pos hi', hzi] at hi
    simp at hi
    subst hi
    have hwf := hw zs[i] (List.getElem_mem _)
    have hb := bounds_i64 hwf
    rw [hc', List.getD_eq_getElem?_getD, hzi]
    exact ⟨rfl, by omega, by omega⟩
theorem Nums.len {w : World} {v : Value} {l : List Int} (h : Nums w v l) : ∃ a cap, v = .slice a l.length cap ∧ l.length ≤ cap ∧ cap ≤ maxLen := by
  rcases h with ⟨rfl, rfl⟩ | ⟨g, off, cap, rfl, h1, h2, _⟩
  · exact ⟨none, 0, rfl, Nat.le_refl _, by unfold maxLen; omega⟩
  · exact ⟨_, cap, rfl, h1, h2⟩
theorem wf_i64 {n : Int} (h : (Lit.int .i64 n).wf = true) : -9223372036854775808 ≤ n ∧ n ≤ 9223372036854775807 := by
  have := bounds_i64 h; omega
theorem wf_u8 {n : Int} (h : (Lit.int .u8 n).wf = true) : 0 ≤ n ∧ n < 256 := by
  have := bounds_u8 h; omega
end Go.Sp
