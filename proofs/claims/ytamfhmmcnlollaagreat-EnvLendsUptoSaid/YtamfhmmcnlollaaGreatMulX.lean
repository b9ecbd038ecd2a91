/-
  Walks: mul.cut, mul.lift, mul.product (school), mul.halves, mul.Mul, Square, MulAdd. Walks: mul.product, mul.Mul, Square, MulAdd, Times.
-/
import Derived.Test.YtamfhmmcnlollaaGreatNat
namespace Go.Proofs.YtamfhmmcnlollaaGreat
open Go.RowKit
set_option linter.unusedVariables false
/-- two new numbers in their own form -/
def GN2 (w : World) (x L y M : Nat) (e : Ending) (w' : World) : Prop :=
  ∃ A n c A2 n2 c2, e = .returned (.tuple #[.slice A n c, .slice A2 n2 c2]) ∧ Own .u64 41 w.heap.size w' A n c (dg W x) ∧ Own .u64 41 w.heap.size w' A2 n2 c2 (dg W y) ∧ Below w.heap.size w w' ∧ n ≤ L ∧ n2 ≤ M

end Go.Proofs.YtamfhmmcnlollaaGreat
namespace Go.Proofs.YtamfhmmcnlollaaGreat
open Go.RowKit
set_option linter.unusedVariables false

theorem val_set {xs : List Nat} {k x : Nat} (h : k < xs.length) : val W (xs.set k x) + W ^ k * nth xs k = val W xs + W ^ k * x := by
  induction xs generalizing k with
  | nil => simp at h
  | cons y ys ih =>
    cases k with
    | zero => simp [val, nth]; omega
    | succ k =>
      have := ih (k := k) (by simpa using h)
      simp only [List.set_cons_succ, val, nth, List.getElem?_cons_succ] at this ⊢
      rw [Nat.pow_succ]
      have e1 : W ^ k * W * (ys[k]?.getD 0) = W * (W ^ k * (ys[k]?.getD 0)) := by rw [Nat.mul_comm (W ^ k) W, Nat.mul_assoc]
      have e2 : W ^ k * W * x = W * (W ^ k * x) := by rw [Nat.mul_comm (W ^ k) W, Nat.mul_assoc]
      have e3 : W * (val W (ys.set k x) + W ^ k * ys[k]?.getD 0) = W * (val W ys + W ^ k * x) := by rw [this]
      rw [Nat.mul_add, Nat.mul_add] at e3
      omega
theorem nth_set_ne {xs : List Nat} {k j x : Nat} (h : k ≠ j) : nth (xs.set k x) j = nth xs j := by
  simp [nth, List.getElem?_set_ne h]

def SchI (xs ys : List Nat) (N i : Nat) (outs : List Nat) : Prop :=
  All W outs ∧ outs.length = N ∧ val W outs = val W (xs.take i) * val W ys ∧ ∀ j, i + ys.length ≤ j → nth outs j = 0
def SchJ (xs ys : List Nat) (N i j c : Nat) (outs : List Nat) : Prop :=
  All W outs ∧ outs.length = N ∧ c < W ∧ val W outs + W ^ (i + j) * c = val W (xs.take i) * val W ys + W ^ i * nth xs i * val W (ys.take j) ∧ ∀ l, i + ys.length ≤ l → nth outs l = 0
section
variable {xs ys outs : List Nat} {N i j c : Nat}
theorem SchI.enter (h : SchI xs ys N i outs) : SchJ xs ys N i 0 0 outs := by
  obtain ⟨h1, h2, h3, h4⟩ := h
  exact ⟨h1, h2, by decide, by simp [val, h3], h4⟩
theorem SchJ.step (h : SchJ xs ys N i j c outs) (hx : All W xs) (hy : All W ys) (hj : j < ys.length) (hN : i + ys.length < N) :
    SchJ xs ys N i (j + 1) (hi (nth ys j * nth xs i + c + nth outs (i + j))) (outs.set (i + j) (lo (nth ys j * nth xs i + c + nth outs (i + j)))) := by
  obtain ⟨h1, h2, h3, h4, h5⟩ := h
  have e1 := lo_hi (nth ys j * nth xs i + c + nth outs (i + j))
  have hh := (mul_words (nth ys j) (nth xs i) c (nth outs (i + j)) (hy.nth W_pos j) (hx.nth W_pos i) h3 (h1.nth W_pos _)).2.2
  have hs := val_set (xs := outs) (k := i + j) (x := lo (nth ys j * nth xs i + c + nth outs (i + j))) (by omega)
  refine ⟨h1.set (lo_lt _) _, by simpa using h2, hh, ?_, ?_⟩
  · rw [val_take_succ' ys j, Nat.mul_add]
    generalize lo (nth ys j * nth xs i + c + nth outs (i + j)) = l at *
    generalize hi (nth ys j * nth xs i + c + nth outs (i + j)) = g at *
    have e2 : W ^ (i + j) * l + W ^ (i + (j + 1)) * g = W ^ (i + j) * (nth ys j * nth xs i) + W ^ (i + j) * c + W ^ (i + j) * nth outs (i + j) := by
      rw [show i + (j + 1) = (i + j) + 1 from rfl, Nat.pow_succ, Nat.mul_assoc, ← Nat.mul_add, e1, Nat.mul_add, Nat.mul_add]
    have e3 : W ^ i * nth xs i * (W ^ j * nth ys j) = W ^ (i + j) * (nth ys j * nth xs i) := by
      rw [Nat.mul_mul_mul_comm, ← Nat.pow_add, Nat.mul_comm (nth xs i)]
    omega
  · intro l hl
    rw [nth_set_ne (by omega)]; exact h5 l hl
end
end Go.Proofs.YtamfhmmcnlollaaGreat
