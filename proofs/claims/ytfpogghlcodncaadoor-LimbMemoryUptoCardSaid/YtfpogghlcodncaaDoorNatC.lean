/-
  nat.Sub below 0, Diff, IsNorm, Shl, Shr, Cut.
-/
import Derived.Test.YtfpogghlcodncaaDoorNatB
namespace Go.Proofs.YtfpogghlcodncaaDoor
open Go.RowKit
set_option linter.unusedVariables false

/-- a new number in its own form, and a value beside it -/
def GNX (w : World) (x L : Nat) (v : Value) (e : Ending) (w' : World) : Prop :=
  ∃ A n c, e = .returned (.tuple #[.slice A n c, v]) ∧ Own .u64 22 w.heap.size w' A n c (dg W x) ∧ Below w.heap.size w w' ∧ n ≤ L
/-- two of them, and an error's number -/
def GN2E (w : World) (x L y M : Nat) (er : Int) (e : Ending) (w' : World) : Prop :=
  ∃ A n c A2 n2 c2, e = .returned (.tuple #[.slice A n c, .slice A2 n2 c2, .int .i64 er]) ∧ Own .u64 22 w.heap.size w' A n c (dg W x) ∧ Own .u64 22 w.heap.size w' A2 n2 c2 (dg W y) ∧ Below w.heap.size w w' ∧ n ≤ L ∧ n2 ≤ M
theorem Own.nildg {t : TypeId} {B : Nat} {w : World} : Own .u64 t B w none 0 0 (dg W 0) := Own.nilx (dg_zero W_gt)

theorem norm_top {xs : List Nat} (h : Norm xs) (hn : 0 < xs.length) : nth xs (xs.length - 1) ≠ 0 := by
  rcases snoc_cases xs with rfl | ⟨ys, y, rfl⟩
  · simp at hn
  · intro hy
    have hy0 : y = 0 := by simpa [nth] using hy
    subst hy0
    unfold Norm at h
    rw [strip_snoc_zero] at h
    have := strip_length_le ys
    rw [h] at this
    simp at this
    omega
theorem shlLen_le {n s : Nat} : shlLen n s ≤ n + s / 64 + 1 := by unfold shlLen; split <;> omega
theorem shl_fit {x n s : Nat} (h : x < W ^ n) : x * 2 ^ s < W ^ shlLen n s := by
  rw [two_split s]
  have h1 : 2 ^ (s % 64) < W := show 2 ^ (s % 64) < 2 ^ 64 from Nat.pow_lt_pow_right (by omega) (by omega)
  unfold shlLen
  by_cases h0 : 0 < s % 64
  · rw [if_pos h0, Nat.pow_succ, Nat.pow_add]
    have : x * 2 ^ (s % 64) < W ^ n * W := Nat.mul_lt_mul'' h h1
    have hp := Nat.pow_pos (n := s / 64) W_pos
    have h2 := (Nat.mul_lt_mul_right hp).2 this
    rw [← Nat.mul_assoc]
    refine Nat.lt_of_lt_of_eq h2 ?_
    rw [Nat.mul_assoc, Nat.mul_comm W, Nat.mul_assoc]
  · rw [if_neg h0, show s % 64 = 0 by omega, Nat.pow_zero, Nat.one_mul, Nat.add_zero, Nat.pow_add]
    exact (Nat.mul_lt_mul_right (Nat.pow_pos W_pos)).2 h
theorem shr_fit {x n s : Nat} (h : x < W ^ n) : x / 2 ^ s < W ^ (n - s / 64) := by
  refine Nat.div_lt_of_lt_mul ?_
  by_cases hn : s / 64 ≤ n
  · refine Nat.lt_of_lt_of_le h ?_
    have e : W ^ n = W ^ (s / 64) * W ^ (n - s / 64) := by rw [← Nat.pow_add]; congr 1; omega
    rw [e, two_split s]
    refine Nat.mul_le_mul_right _ ?_
    have := two_pos (s % 64)
    exact Nat.le_mul_of_pos_left _ this
  · rw [show n - s / 64 = 0 by omega, Nat.pow_zero, Nat.mul_one]
    refine Nat.lt_of_lt_of_le h ?_
    rw [W_pow2]
    exact Nat.pow_le_pow_right (by omega) (by omega)
end Go.Proofs.YtfpogghlcodncaaDoor
