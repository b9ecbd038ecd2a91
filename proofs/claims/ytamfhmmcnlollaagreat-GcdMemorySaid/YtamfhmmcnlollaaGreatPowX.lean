/-
  MulRing: the laws of products, for all numbers. Lists of numbers in memory (Nums); mul.one, Dot, Product; surdref03.Dot, Product; surdlaw03.plain. Walks: mul.bound, Pow, Low; surdref03.Pow, Low; MulExponents, MulPowers.
-/
import Derived.Test.YtamfhmmcnlollaaGreatRef3C
import Derived.Test.YtamfhmmcnlollaaGreatRef3D
namespace Go.Proofs.YtamfhmmcnlollaaGreat
open Go.RowKit
set_option linter.unusedVariables false
end Go.Proofs.YtamfhmmcnlollaaGreat
namespace Go.Proofs.YtamfhmmcnlollaaGreat
open Go.RowKit
set_option linter.unusedVariables false

def lsum : List Nat → Nat
  | [] => 0
  | x :: xs => x + lsum xs
theorem lsum_append (xs ys : List Nat) : lsum (xs ++ ys) = lsum xs + lsum ys := by
  induction xs with
  | nil => simp [lsum]
  | cons x xs ih => simp [lsum, ih]; omega
theorem lsum_cut (xs : List Nat) (k : Nat) : lsum xs = lsum (xs.take k) + lsum (xs.drop k) := by
  rw [← lsum_append, List.take_append_drop]
theorem lsum_take_succ {xs : List Nat} {k : Nat} (h : k < xs.length) : lsum (xs.take (k + 1)) = lsum (xs.take k) + nth xs k := by
  rw [List.take_succ_eq_append_getElem h, lsum_append, nth_lt h]; simp [lsum]
theorem lsum_take_le (xs : List Nat) (k : Nat) : lsum (xs.take k) ≤ lsum xs := by rw [lsum_cut xs k]; omega
/-- the slice's cells are slices: the numbers xs, of at most ls words -/
def Nums (w : World) (A : Option Addr) (n c : Nat) (xs ls : List Nat) : Prop :=
  (xs.length = n ∧ ls.length = n ∧ n ≤ c) ∧ (0 < n → ∃ b off, A = some ⟨b, off, none⟩ ∧ b < w.heap.size ∧ ∀ i, i < n → ∃ v, w.cell? ⟨b, off + i, none⟩ = some v ∧ Num w v (nth xs i) (nth ls i))
section
variable {w w' : World} {A : Option Addr} {n c : Nat} {xs ls : List Nat}
theorem Nums.at {i : Nat} (h : Nums w A n c xs ls) (hi : i < n) : ∃ b off v, A = some ⟨b, off, none⟩ ∧ b < w.heap.size ∧ w.cell? ⟨b, off + i, none⟩ = some v ∧ Num w v (nth xs i) (nth ls i) := by
  obtain ⟨b, off, e, hb, hc⟩ := h.2 (by omega)
  obtain ⟨v, h1, h2⟩ := hc i hi
  exact ⟨b, off, v, e, hb, h1, h2⟩
theorem Nums.below (h : Nums w A n c xs ls) (hb : Below w.heap.size w w') : Nums w' A n c xs ls :=
  ⟨h.1, fun hn => by
    obtain ⟨b, off, e, hlt, hc⟩ := h.2 hn
    refine ⟨b, off, e, Nat.lt_of_lt_of_le hlt hb.size, fun i hi => ?_⟩
    obtain ⟨v, h1, h2⟩ := hc i hi
    exact ⟨v, (hb.cell (p := ⟨b, off + i, none⟩) hlt).trans h1, h2.below hb⟩⟩
theorem Nums.drew (h : Nums w A n c xs ls) : Nums w.drew A n c xs ls := h
theorem nth_take {xs : List Nat} {i j : Nat} (h : i < j) : nth (xs.take j) i = nth xs i := by rw [nth, nth, List.getElem?_take, if_pos h]
theorem nth_drop {xs : List Nat} {i j : Nat} : nth (xs.drop j) i = nth xs (j + i) := by rw [nth, nth, List.getElem?_drop]
theorem Nums.upto {j : Nat} (h : Nums w A n c xs ls) (hj : j ≤ n) : Nums w A j c (xs.take j) (ls.take j) := by
  obtain ⟨⟨h1, h2, h3⟩, h4⟩ := h
  refine ⟨⟨by simp [h1]; omega, by simp [h2]; omega, by omega⟩, fun hn => ?_⟩
  obtain ⟨b, off, e, hlt, hc⟩ := h4 (by omega)
  refine ⟨b, off, e, hlt, fun i hi => ?_⟩
  rw [nth_take hi, nth_take hi]
  exact hc i (by omega)
theorem Nums.from_ {j : Nat} (h : Nums w A n c xs ls) (hj : j ≤ n) : Nums w (if c = j then A else A.map (·.add j)) (n - j) (c - j) (xs.drop j) (ls.drop j) := by
  obtain ⟨⟨h1, h2, h3⟩, h4⟩ := h
  refine ⟨⟨by simp [h1], by simp [h2], by omega⟩, fun hn => ?_⟩
  obtain ⟨b, off, e, hlt, hc⟩ := h4 (by omega)
  subst e
  rw [if_neg (by omega)]
  refine ⟨b, off + j, by simp [addo], hlt, fun i hi => ?_⟩
  rw [nth_drop, nth_drop, Nat.add_assoc]
  exact hc (j + i) (by omega)
end
end Go.Proofs.YtamfhmmcnlollaaGreat
namespace Go.Proofs.YtamfhmmcnlollaaGreat
open Go.RowKit
set_option linter.unusedVariables false
theorem pow_lt {x L : Nat} (h : x < W ^ L) (a : Nat) : x ^ a < W ^ (L * a + 1) := by
  have h1 : x ^ a ≤ (W ^ L) ^ a := Nat.pow_le_pow_left (Nat.le_of_lt h) a
  rw [← Nat.pow_mul] at h1
  exact Nat.lt_of_le_of_lt h1 (Nat.pow_lt_pow_right W_gt (by omega))
/-- what is left of the exponent -/
def PowI (N m a b : Nat) : Prop := a + b * m = N ∧ (m = 0 ∨ b ≤ N) ∧ a ≤ N
theorem PowI.start (N : Nat) : PowI N N 0 1 := ⟨by omega, by omega, by omega⟩
theorem PowI.odd1 {N m a b : Nat} (h : PowI N m a b) (h1 : m % 2 = 1) : PowI N (m / 2) (a + b) (b + b) ∨ m = 1 := by
  obtain ⟨h2, h3, h4⟩ := h
  by_cases hm : m = 1
  · exact .inr hm
  · left
    obtain ⟨k, rfl⟩ : ∃ k, m = 2 * k + 1 := ⟨m / 2, by omega⟩
    have hk : 1 ≤ k := by omega
    have e : (2 * k + 1) / 2 = k := by omega
    have e2 : b * (2 * k + 1) = b * k + b * k + b := by rw [Nat.mul_add, Nat.mul_comm 2 k, ← Nat.mul_assoc]; omega
    have e3 : b * 1 ≤ b * k := Nat.mul_le_mul_left b hk
    rw [e]
    refine ⟨by rw [Nat.add_mul]; omega, by omega, by omega⟩
theorem PowI.last {N a b : Nat} (h : PowI N 1 a b) : PowI N 0 (a + b) b := by
  obtain ⟨h2, h3, h4⟩ := h
  exact ⟨by omega, by omega, by omega⟩
theorem PowI.even {N m a b : Nat} (h : PowI N m a b) (h1 : m % 2 = 0) (h0 : 0 < m) : PowI N (m / 2) a (b + b) := by
  obtain ⟨h2, h3, h4⟩ := h
  obtain ⟨k, rfl⟩ : ∃ k, m = 2 * k := ⟨m / 2, by omega⟩
  have hk : 1 ≤ k := by omega
  have e : 2 * k / 2 = k := by omega
  have e2 : b * (2 * k) = b * k + b * k := by rw [Nat.mul_comm 2 k, ← Nat.mul_assoc]; omega
  have e3 : b * 1 ≤ b * k := Nat.mul_le_mul_left b hk
  rw [e]
  exact ⟨by rw [Nat.add_mul]; omega, by omega, by omega⟩
theorem pow_len {x L N a : Nat} {xs : List Nat} (h : x < W ^ L) (ha : a ≤ N) (e : xs = dg W (x ^ a)) : xs.length ≤ L * N + 1 := by
  subst e
  have := dgl (pow_lt h a)
  have h2 : L * a ≤ L * N := Nat.mul_le_mul_left L ha
  omega

end Go.Proofs.YtamfhmmcnlollaaGreat
