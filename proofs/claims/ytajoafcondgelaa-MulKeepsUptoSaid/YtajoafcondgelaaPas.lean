/-
  Pascal's numbers and factorials, in plain Lean. No program here.
-/
import Derived.Test.YtajoafcondgelaaNum
namespace Go.Proofs.Ytajoafcondgelaa
set_option linter.unusedVariables false

/-- Pascal's numbers -/
def pas : Nat → Nat → Nat
  | _, 0 => 1
  | 0, _ + 1 => 0
  | n + 1, k + 1 => pas n k + pas n (k + 1)
def fct : Nat → Nat
  | 0 => 1
  | n + 1 => fct n * (n + 1)

theorem pas_zero (n : Nat) : pas n 0 = 1 := by cases n <;> rfl
theorem pas_succ (n k : Nat) : pas (n + 1) (k + 1) = pas n k + pas n (k + 1) := rfl
theorem pas_above {n k : Nat} (h : n < k) : pas n k = 0 := by
  induction n generalizing k with
  | zero => cases k with
    | zero => omega
    | succ k => rfl
  | succ n ih => cases k with
    | zero => omega
    | succ k => rw [pas_succ, ih (by omega), ih (by omega)]
theorem pas_self (n : Nat) : pas n n = 1 := by
  induction n with
  | zero => rfl
  | succ n ih => rw [pas_succ, ih, pas_above (by omega)]
/-- the next of the row -/
theorem pas_next (n k : Nat) : pas n (k + 1) * (k + 1) = pas n k * (n - k) := by
  induction n generalizing k with
  | zero => cases k <;> simp [pas]
  | succ n ih =>
    cases k with
    | zero =>
      rw [pas_succ, pas_zero, pas_zero]
      have := ih 0
      rw [pas_zero] at this
      omega
    | succ k =>
      rw [pas_succ n (k + 1), pas_succ n k, Nat.add_mul]
      have h1 := ih (k + 1)
      have h2 := ih k
      rcases Nat.lt_or_ge k n with hk | hk
      · obtain ⟨d, hd⟩ : ∃ d, n - k = d + 1 := ⟨n - k - 1, by omega⟩
        have e1 : n - (k + 1) = d := by omega
        have e2 : n + 1 - (k + 1) = d + 1 := by omega
        rw [e1] at h1
        rw [hd] at h2
        rw [h1, e2, Nat.add_mul (pas n k), ← h2, Nat.mul_add (pas n (k + 1)) d 1, Nat.mul_add (pas n (k + 1)) (k + 1) 1]
        omega
      · have e1 : pas n (k + 1) = 0 := pas_above (by omega)
        have e2 : pas n (k + 1 + 1) = 0 := pas_above (by omega)
        rw [e1, e2]
        rcases Nat.lt_or_ge n k with h | h
        · rw [pas_above (n := n) (k := k) h]; simp
        · have : n + 1 - (k + 1) = 0 := by omega
          rw [this]; simp
theorem pas_up {n k : Nat} : (k + 1) * pas (n + 1) (k + 1) = (n + 1) * pas n k := by
  rcases Nat.lt_or_ge n k with h | h
  · rw [pas_above (n := n) h, pas_above (by omega)]; simp
  · have h1 := pas_next n k
    rw [Nat.mul_comm, pas_succ, Nat.add_mul, h1, ← Nat.mul_add, Nat.mul_comm]
    congr 1
    omega
theorem pas_side {n k : Nat} (h : k ≤ n) : (n + 1 - k) * pas (n + 1) k = (n + 1) * pas n k := by
  cases k with
  | zero => rw [pas_zero, pas_zero]; rfl
  | succ j =>
    have h1 := pas_next n j
    have e : n + 1 - (j + 1) = n - j := by omega
    rw [e, pas_succ, Nat.mul_add, Nat.mul_comm (n - j) (pas n j), ← h1, Nat.mul_comm (n - j), ← Nat.mul_add]
    rw [Nat.mul_comm]
    congr 1
    omega
theorem pas_symm {n k : Nat} (h : k ≤ n) : pas n (n - k) = pas n k := by
  induction n generalizing k with
  | zero => obtain rfl : k = 0 := by omega
            rfl
  | succ n ih =>
    cases k with
    | zero => rw [pas_zero]; exact pas_self _
    | succ k =>
      have e : n + 1 - (k + 1) = n - k := by omega
      rw [e]
      have h1 := pas_side (n := n) (k := n - k) (by omega)
      have h2 := pas_up (n := n) (k := k)
      have e2 : n + 1 - (n - k) = k + 1 := by omega
      rw [e2, ih (by omega), ← h2] at h1
      exact Nat.eq_of_mul_eq_mul_left (by omega) h1
theorem pas_min {n k : Nat} (h : k ≤ n) : pas n (min k (n - k)) = pas n k := by
  rcases Nat.le_total k (n - k) with h1 | h1
  · rw [Nat.min_eq_left h1]
  · rw [Nat.min_eq_right h1]; exact pas_symm h
theorem pas_div {n k : Nat} : pas n k * (n - k) / (k + 1) = pas n (k + 1) := by
  rw [← pas_next]; exact Nat.mul_div_cancel _ (by omega)
/-- the row -/
def prow (n : Nat) : List Nat := (List.range (n + 1)).map (pas n)
theorem prow_len (n : Nat) : (prow n).length = n + 1 := by simp [prow]
theorem prow_nth {n k : Nat} (h : k ≤ n) : nth (prow n) k = pas n k := by
  rw [nth, prow, List.getElem?_map, List.getElem?_range (by omega)]; rfl
theorem prow_take {n k : Nat} (h : k ≤ n) : (prow n).take (k + 1) = (prow n).take k ++ [pas n k] := by
  rw [List.take_succ_eq_append_getElem (by rw [prow_len]; omega), ← nth_lt, prow_nth h]
end Go.Proofs.Ytajoafcondgelaa
