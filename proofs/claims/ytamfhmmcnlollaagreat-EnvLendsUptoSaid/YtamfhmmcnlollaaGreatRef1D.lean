/-
  The reference of layer 1: surdref01.bit, Divide.
-/
import Derived.Test.YtamfhmmcnlollaaGreatRef1C
namespace Go.Proofs.YtamfhmmcnlollaaGreat
open Go.RowKit
set_option linter.unusedVariables false

theorem nth_val {b : Nat} {xs : List Nat} (h : All b xs) (hb : 1 < b) (j : Nat) : nth xs j = val b xs / b ^ j % b := by
  by_cases hj : j < xs.length
  · have := nth_wds (b := b) (n := xs.length) (x := val b xs) hj
    rwa [wds_val h] at this
  · have h1 := val_lt h
    have h2 : b ^ xs.length ≤ b ^ j := Nat.pow_le_pow_right (by omega) (by omega)
    rw [nth_ge (by omega), Nat.div_eq_of_lt (by omega)]
    simp
theorem bit_mod (x r : Nat) (hr : r < 16) : x % D / 2 ^ r % 2 = x / 2 ^ r % 2 := by
  have h := Nat.testBit_mod_two_pow x 16 r
  rw [decide_eq_true hr, Bool.true_and, Nat.testBit_eq_decide_div_mod_eq, Nat.testBit_eq_decide_div_mod_eq, decide_eq_decide] at h
  have e : D = 2 ^ 16 := rfl
  rw [e]
  omega
theorem D_two (j : Nat) : D ^ j = 2 ^ (16 * j) := by rw [D_eq, show (65536 : Nat) = 2 ^ 16 from rfl, ← Nat.pow_mul]
theorem nth_bit {xs : List Nat} (h : All D xs) (i : Nat) : nth xs (i / 16) / 2 ^ (i % 16) % 2 = val D xs / 2 ^ i % 2 := by
  rw [nth_val h D_gt, bit_mod _ _ (by omega), Nat.div_div_eq_div_mul, D_two, ← Nat.pow_add]
  congr 3
  omega

/-- the bits from k on are divided -/
def DivJ (x y n k R : Nat) (qs : List Nat) : Prop := All D qs ∧ qs.length = n ∧ val D qs = x / 2 ^ k / y * 2 ^ k ∧ R = x / 2 ^ k % y
theorem half (x k : Nat) : x / 2 ^ k = 2 * (x / 2 ^ (k + 1)) + x / 2 ^ k % 2 := by
  rw [Nat.pow_succ, ← Nat.div_div_eq_div_mul]; omega
theorem DivJ.take {x y n k R : Nat} {qs : List Nat} (h : DivJ x y n (k + 1) R qs) (hR : R < y) (hk : k < 16 * n) (hlt : y ≤ 2 * R + x / 2 ^ k % 2) :
    DivJ x y n k (2 * R + x / 2 ^ k % 2 - y) (qs.set (k / 16) (nth qs (k / 16) + 2 ^ (k % 16))) ∧ nth qs (k / 16) + 2 ^ (k % 16) < 65536 ∧ 2 * R + x / 2 ^ k % 2 - y < y := by
  obtain ⟨h1, h2, h3, h4⟩ := h
  have e := half x k
  have e1 := Nat.div_add_mod (x / 2 ^ (k + 1)) y
  have hb : x / 2 ^ k % 2 < 2 := Nat.mod_lt _ (by omega)
  have hs : 2 * R + x / 2 ^ k % 2 - y < y := by omega
  have e2 : x / 2 ^ k = y * (2 * (x / 2 ^ (k + 1) / y) + 1) + (2 * R + x / 2 ^ k % 2 - y) := by
    rw [← h4] at e1
    rw [Nat.mul_add, Nat.mul_left_comm]
    omega
  have d1 : x / 2 ^ k / y = 2 * (x / 2 ^ (k + 1) / y) + 1 := by
    rw [e2, Nat.mul_add_div (by omega), Nat.div_eq_of_lt hs]
  have d2 : x / 2 ^ k % y = 2 * R + x / 2 ^ k % 2 - y := by
    generalize 2 * R + x / 2 ^ k % 2 - y = s at *
    rw [e2, Nat.mul_add_mod, Nat.mod_eq_of_lt hs]
  have hdig : nth qs (k / 16) + 2 ^ (k % 16) < 65536 := by
    have f1 := nth_bit h1 k
    have f2 : val D qs / 2 ^ k % 2 = 0 := by
      rw [h3, Nat.pow_succ, Nat.mul_comm (2 ^ k) 2, ← Nat.mul_assoc, Nat.mul_div_cancel _ (Nat.two_pow_pos k)]
      omega
    rw [f2] at f1
    have f3 : nth qs (k / 16) < 65536 := h1.nth D_pos _
    generalize nth qs (k / 16) = u at *
    have f4 : k % 16 < 16 := by omega
    generalize k % 16 = r at *
    have f5 : (2 : Nat) ^ r * 2 ^ (16 - r) = 65536 := by rw [← Nat.pow_add, show r + (16 - r) = 16 by omega]
    have f7 : (2 : Nat) ^ (16 - r) = 2 * 2 ^ (15 - r) := by rw [← Nat.pow_succ', show (15 - r).succ = 16 - r by omega]
    have f6 : u / 2 ^ r < 2 ^ (16 - r) := Nat.div_lt_of_lt_mul (by rw [f5]; exact f3)
    have f8 : u / 2 ^ r + 2 ≤ 2 ^ (16 - r) := by omega
    have f9 : 2 ^ r * (u / 2 ^ r + 2) ≤ 65536 := by rw [← f5]; exact Nat.mul_le_mul_left _ f8
    have g1 := Nat.div_add_mod u (2 ^ r)
    have g2 := Nat.mod_lt u (Nat.two_pow_pos r)
    rw [Nat.mul_add] at f9
    omega
  refine ⟨⟨h1.set hdig _, by simpa using h2, ?_, d2.symm⟩, hdig, hs⟩
  have s := val_setD (b := D) (xs := qs) (k := k / 16) (x := nth qs (k / 16) + 2 ^ (k % 16)) (by omega)
  have e3 : D ^ (k / 16) * 2 ^ (k % 16) = 2 ^ k := by
    rw [D_two, ← Nat.pow_add]; congr 1; omega
  rw [Nat.mul_add, e3] at s
  have e4 : val D (qs.set (k / 16) (nth qs (k / 16) + 2 ^ (k % 16))) = val D qs + 2 ^ k := by omega
  rw [e4, h3, d1, Nat.pow_succ, Nat.add_mul, Nat.one_mul, Nat.mul_comm (2 ^ k) 2, ← Nat.mul_assoc, Nat.mul_comm _ 2]
theorem DivJ.done {x y n R : Nat} {qs : List Nat} (h : DivJ x y n 0 R qs) : All D qs ∧ qs.length = n ∧ val D qs = x / y ∧ R = x % y := by
  obtain ⟨h1, h2, h3, h4⟩ := h
  simp at h3 h4
  exact ⟨h1, h2, h3, h4⟩

theorem ownlt {k : IntKind} {t : TypeId} {B n c g : Nat} {w : World} {xs : List Nat} (h : Own k t B w (some ⟨g, 0, none⟩) n c xs) : g < w.heap.size := (World.ownsRow.lt h g rfl).2
/-- new digits of two numbers -/
def GG2 (w : World) (x L y M : Nat) (e : Ending) (w' : World) : Prop :=
  ∃ A n c A2 n2 c2 xs ys, e = .returned (.tuple #[.slice A n c, .slice A2 n2 c2]) ∧ Own .i64 3 w.heap.size w' A n c xs ∧ All D xs ∧ val D xs = x ∧ n ≤ L ∧ Own .i64 3 w.heap.size w' A2 n2 c2 ys ∧ All D ys ∧ val D ys = y ∧ n2 ≤ M ∧ Below w.heap.size w w'

end Go.Proofs.YtamfhmmcnlollaaGreat
