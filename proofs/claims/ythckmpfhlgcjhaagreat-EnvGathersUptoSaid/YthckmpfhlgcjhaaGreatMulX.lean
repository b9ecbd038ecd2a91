/-
  Walks: mul.cut, mul.lift, mul.product (school), mul.halves, mul.Mul, Square, MulAdd. Walks: mul.product, mul.Mul, Square, MulAdd, Times.
-/
import Derived.Test.YthckmpfhlgcjhaaGreatNat
namespace Go.Proofs.YthckmpfhlgcjhaaGreat
open Go.RowKit
set_option linter.unusedVariables false

theorem run_min2 {P : Program} (ts : Array TypeId) (t : TypeId) (n m : Nat) (w : World) : (Builtin.min_ ts t #[.int .i64 (n : Int), .int .i64 (m : Int)]).run P w = .ok (.int .i64 ((min n m : Nat) : Int)) w := by
  rw [run_min_int2]
  congr 2
  split <;> omega

/-- two new numbers in their own form -/
def GN2 (w : World) (x L y M : Nat) (e : Ending) (w' : World) : Prop :=
  ∃ A n c A2 n2 c2, e = .returned (.tuple #[.slice A n c, .slice A2 n2 c2]) ∧ Own .u64 71 w.heap.size w' A n c (dg W x) ∧ Own .u64 71 w.heap.size w' A2 n2 c2 (dg W y) ∧ Below w.heap.size w w' ∧ n ≤ L ∧ n2 ≤ M

theorem val_drop_eq {xs : List Nat} {k : Nat} (ha : All W xs) (hk : k ≤ xs.length) : val W (xs.drop k) = val W xs / W ^ k ∧ val W (xs.take k) = val W xs % W ^ k := by
  have h := val_append (b := W) (xs.take k) (xs.drop k)
  rw [List.take_append_drop, List.length_take, Nat.min_eq_left hk] at h
  have l := val_lt (ha.take k)
  rw [List.length_take, Nat.min_eq_left hk] at l
  rw [h]
  refine ⟨?_, ?_⟩
  · rw [Nat.add_mul_div_left _ _ (Nat.pow_pos W_pos), Nat.div_eq_of_lt l, Nat.zero_add]
  · rw [Nat.add_mul_mod_self_left, Nat.mod_eq_of_lt l]
theorem val_cut {xs : List Nat} {n : Nat} (ha : All W xs) : val W (xs.drop (min n xs.length)) = val W xs / W ^ n ∧ val W (xs.take (min n xs.length)) = val W xs % W ^ n := by
  by_cases h : n ≤ xs.length
  · rw [Nat.min_eq_left h]; exact val_drop_eq ha h
  · rw [Nat.min_eq_right (by omega), List.drop_length, List.take_length]
    have l : val W xs < W ^ n := Nat.lt_of_lt_of_le (val_lt ha) (Nat.pow_le_pow_right W_pos (by omega))
    rw [Nat.div_eq_of_lt l, Nat.mod_eq_of_lt l]
    exact ⟨rfl, rfl⟩

theorem halves_law (x y B : Nat) (hB : 0 < B) : (x / B * (y / B) * (B * B) + ((x / B + x % B) * (y / B + y % B) - (x / B * (y / B) + x % B * (y % B))) * B) + x % B * (y % B) = x * y := by
  have e1 := Nat.div_add_mod x B
  have e2 := Nat.div_add_mod y B
  generalize x / B = x1 at *
  generalize x % B = x0 at *
  generalize y / B = y1 at *
  generalize y % B = y0 at *
  subst e1 e2
  have e3 : (x1 + x0) * (y1 + y0) - (x1 * y1 + x0 * y0) = x1 * y0 + x0 * y1 := by
    rw [Nat.add_mul, Nat.mul_add, Nat.mul_add]; omega
  rw [e3]
  simp only [Nat.add_mul, Nat.mul_add]
  have a1 : x1 * y1 * (B * B) = B * x1 * (B * y1) := by
    rw [Nat.mul_comm B x1, Nat.mul_comm B y1, Nat.mul_mul_mul_comm]
  have a2 : x1 * y0 * B = B * x1 * y0 := by rw [Nat.mul_comm B x1, Nat.mul_assoc, Nat.mul_assoc, Nat.mul_comm y0 B]
  have a3 : x0 * y1 * B = x0 * (B * y1) := by rw [Nat.mul_assoc, Nat.mul_comm y1 B]
  omega
theorem halves_le (x y B : Nat) : x / B * (y / B) + x % B * (y % B) ≤ (x / B + x % B) * (y / B + y % B) := by
  rw [Nat.add_mul, Nat.mul_add, Nat.mul_add]; omega

end Go.Proofs.YthckmpfhlgcjhaaGreat
namespace Go.Proofs.YthckmpfhlgcjhaaGreat
open Go.RowKit
set_option linter.unusedVariables false

theorem val_set {xs : List Nat} {k x : Nat} (h : k < xs.length) : val W (xs.set k x) + W ^ k * nth xs k = val W xs + W ^ k * x := by
  induction xs generalizing k with
  | nil => simp at h
  | cons y ys ih =>
    cases k with
    | zero => simp [val, nth]; omega
    | succ k =>
      have := ih (k := k) (by simpa using h)
      simp only [List.set_cons_succ, val, nth, List.getElem?_cons_succ] at this ⊢
      rw [Nat.pow_succ]
      have e1 : W ^ k * W * (ys[k]?.getD 0) = W * (W ^ k * (ys[k]?.getD 0)) := by rw [Nat.mul_comm (W ^ k) W, Nat.mul_assoc]
      have e2 : W ^ k * W * x = W * (W ^ k * x) := by rw [Nat.mul_comm (W ^ k) W, Nat.mul_assoc]
      have e3 : W * (val W (ys.set k x) + W ^ k * ys[k]?.getD 0) = W * (val W ys + W ^ k * x) := by rw [this]
      rw [Nat.mul_add, Nat.mul_add] at e3
      omega
theorem nth_set_ne {xs : List Nat} {k j x : Nat} (h : k ≠ j) : nth (xs.set k x) j = nth xs j := by
  simp [nth, List.getElem?_set_ne h]

def SchI (xs ys : List Nat) (N i : Nat) (outs : List Nat) : Prop :=
  All W outs ∧ outs.length = N ∧ val W outs = val W (xs.take i) * val W ys ∧ ∀ j, i + ys.length ≤ j → nth outs j = 0
def SchJ (xs ys : List Nat) (N i j c : Nat) (outs : List Nat) : Prop :=
  All W outs ∧ outs.length = N ∧ c < W ∧ val W outs + W ^ (i + j) * c = val W (xs.take i) * val W ys + W ^ i * nth xs i * val W (ys.take j) ∧ ∀ l, i + ys.length ≤ l → nth outs l = 0
section
variable {xs ys outs : List Nat} {N i j c : Nat}
theorem SchI.enter (h : SchI xs ys N i outs) : SchJ xs ys N i 0 0 outs := by
  obtain ⟨h1, h2, h3, h4⟩ := h
  exact ⟨h1, h2, by decide, by simp [val, h3], h4⟩
theorem SchJ.step (h : SchJ xs ys N i j c outs) (hx : All W xs) (hy : All W ys) (hj : j < ys.length) (hN : i + ys.length < N) :
    SchJ xs ys N i (j + 1) (hi (nth ys j * nth xs i + c + nth outs (i + j))) (outs.set (i + j) (lo (nth ys j * nth xs i + c + nth outs (i + j)))) := by
  obtain ⟨h1, h2, h3, h4, h5⟩ := h
  have e1 := lo_hi (nth ys j * nth xs i + c + nth outs (i + j))
  have hh := (mul_words (nth ys j) (nth xs i) c (nth outs (i + j)) (hy.nth W_pos j) (hx.nth W_pos i) h3 (h1.nth W_pos _)).2.2
  have hs := val_set (xs := outs) (k := i + j) (x := lo (nth ys j * nth xs i + c + nth outs (i + j))) (by omega)
  refine ⟨h1.set (lo_lt _) _, by simpa using h2, hh, ?_, ?_⟩
  · rw [val_take_succ' ys j, Nat.mul_add]
    generalize lo (nth ys j * nth xs i + c + nth outs (i + j)) = l at *
    generalize hi (nth ys j * nth xs i + c + nth outs (i + j)) = g at *
    have e2 : W ^ (i + j) * l + W ^ (i + (j + 1)) * g = W ^ (i + j) * (nth ys j * nth xs i) + W ^ (i + j) * c + W ^ (i + j) * nth outs (i + j) := by
      rw [show i + (j + 1) = (i + j) + 1 from rfl, Nat.pow_succ, Nat.mul_assoc, ← Nat.mul_add, e1, Nat.mul_add, Nat.mul_add]
    have e3 : W ^ i * nth xs i * (W ^ j * nth ys j) = W ^ (i + j) * (nth ys j * nth xs i) := by
      rw [Nat.mul_mul_mul_comm, ← Nat.pow_add, Nat.mul_comm (nth xs i)]
    omega
  · intro l hl
    rw [nth_set_ne (by omega)]; exact h5 l hl
theorem SchJ.leave (h : SchJ xs ys N i ys.length c outs) (hi : i < xs.length) (hN : i + ys.length < N) : SchI xs ys N (i + 1) (outs.set (i + ys.length) c) := by
  obtain ⟨h1, h2, h3, h4, h5⟩ := h
  have hs := val_set (xs := outs) (k := i + ys.length) (x := c) (by omega)
  rw [h5 _ (Nat.le_refl _), Nat.mul_zero, Nat.add_zero] at hs
  refine ⟨h1.set h3 _, by simpa using h2, ?_, ?_⟩
  · rw [hs, h4, List.take_length, val_take_succ' xs i, Nat.add_mul]
  · intro l hl
    rw [nth_set_ne (by omega)]; exact h5 l (by omega)
end
end Go.Proofs.YthckmpfhlgcjhaaGreat
