/-
  MulRing: the laws of products, for all numbers. Lists of numbers in memory (Nums); mul.one, Dot, Product; surdref03.Dot, Product; surdlaw03.plain. Walks: mul.bound, Pow, Low; surdref03.Pow, Low; MulExponents, MulPowers.
-/
import Derived.Test.YtamfhmmcnlollaaGreatRef3C
import Derived.Test.YtamfhmmcnlollaaGreatRef3D
namespace Go.Proofs.YtamfhmmcnlollaaGreat
open Go.RowKit
set_option linter.unusedVariables false
end Go.Proofs.YtamfhmmcnlollaaGreat
namespace Go.Proofs.YtamfhmmcnlollaaGreat
open Go.RowKit
set_option linter.unusedVariables false
/-- the slice's cells are slices: the numbers xs, of at most ls words -/
def Nums (w : World) (A : Option Addr) (n c : Nat) (xs ls : List Nat) : Prop :=
  (xs.length = n ∧ ls.length = n ∧ n ≤ c) ∧ (0 < n → ∃ b off, A = some ⟨b, off, none⟩ ∧ b < w.heap.size ∧ ∀ i, i < n → ∃ v, w.cell? ⟨b, off + i, none⟩ = some v ∧ Num w v (nth xs i) (nth ls i))
section
variable {w w' : World} {A : Option Addr} {n c : Nat} {xs ls : List Nat}
theorem Nums.at {i : Nat} (h : Nums w A n c xs ls) (hi : i < n) : ∃ b off v, A = some ⟨b, off, none⟩ ∧ b < w.heap.size ∧ w.cell? ⟨b, off + i, none⟩ = some v ∧ Num w v (nth xs i) (nth ls i) := by
  obtain ⟨b, off, e, hb, hc⟩ := h.2 (by omega)
  obtain ⟨v, h1, h2⟩ := hc i hi
  exact ⟨b, off, v, e, hb, h1, h2⟩
theorem Nums.below (h : Nums w A n c xs ls) (hb : Below w.heap.size w w') : Nums w' A n c xs ls :=
  ⟨h.1, fun hn => by
    obtain ⟨b, off, e, hlt, hc⟩ := h.2 hn
    refine ⟨b, off, e, Nat.lt_of_lt_of_le hlt hb.size, fun i hi => ?_⟩
    obtain ⟨v, h1, h2⟩ := hc i hi
    exact ⟨v, (hb.cell (p := ⟨b, off + i, none⟩) hlt).trans h1, h2.below hb⟩⟩
theorem Nums.drew (h : Nums w A n c xs ls) : Nums w.drew A n c xs ls := h
theorem nth_take {xs : List Nat} {i j : Nat} (h : i < j) : nth (xs.take j) i = nth xs i := by rw [nth, nth, List.getElem?_take, if_pos h]
theorem nth_drop {xs : List Nat} {i j : Nat} : nth (xs.drop j) i = nth xs (j + i) := by rw [nth, nth, List.getElem?_drop]
theorem Nums.upto {j : Nat} (h : Nums w A n c xs ls) (hj : j ≤ n) : Nums w A j c (xs.take j) (ls.take j) := by
  obtain ⟨⟨h1, h2, h3⟩, h4⟩ := h
  refine ⟨⟨by simp [h1]; omega, by simp [h2]; omega, by omega⟩, fun hn => ?_⟩
  obtain ⟨b, off, e, hlt, hc⟩ := h4 (by omega)
  refine ⟨b, off, e, hlt, fun i hi => ?_⟩
  rw [nth_take hi, nth_take hi]
  exact hc i (by omega)
theorem Nums.from_ {j : Nat} (h : Nums w A n c xs ls) (hj : j ≤ n) : Nums w (if c = j then A else A.map (·.add j)) (n - j) (c - j) (xs.drop j) (ls.drop j) := by
  obtain ⟨⟨h1, h2, h3⟩, h4⟩ := h
  refine ⟨⟨by simp [h1], by simp [h2], by omega⟩, fun hn => ?_⟩
  obtain ⟨b, off, e, hlt, hc⟩ := h4 (by omega)
  subst e
  rw [if_neg (by omega)]
  refine ⟨b, off + j, by simp [addo], hlt, fun i hi => ?_⟩
  rw [nth_drop, nth_drop, Nat.add_assoc]
  exact hc (j + i) (by omega)
end
end Go.Proofs.YtamfhmmcnlollaaGreat
namespace Go.Proofs.YtamfhmmcnlollaaGreat
open Go.RowKit
set_option linter.unusedVariables false
/-- what is left of the exponent -/
def PowI (N m a b : Nat) : Prop := a + b * m = N ∧ (m = 0 ∨ b ≤ N) ∧ a ≤ N
theorem PowI.start (N : Nat) : PowI N N 0 1 := ⟨by omega, by omega, by omega⟩
end Go.Proofs.YtamfhmmcnlollaaGreat
