/-
  The reference of layer 3: times, plus, Mul, Of, MulAdd.
-/
import Derived.Test.YtamfhmmcnlollaaGreatRef3C
namespace Go.Proofs.YtamfhmmcnlollaaGreat
open Go.RowKit
set_option linter.unusedVariables false
theorem val_setD {b : Nat} {xs : List Nat} {k x : Nat} (h : k < xs.length) : val b (xs.set k x) + b ^ k * nth xs k = val b xs + b ^ k * x := by
  induction xs generalizing k with
  | nil => simp at h
  | cons y ys ih =>
    cases k with
    | zero => simp [val, nth]; omega
    | succ k =>
      have := ih (k := k) (by simpa using h)
      simp only [List.set_cons_succ, val, nth, List.getElem?_cons_succ] at this ⊢
      rw [Nat.pow_succ]
      have e1 : b ^ k * b * (ys[k]?.getD 0) = b * (b ^ k * (ys[k]?.getD 0)) := by rw [Nat.mul_comm (b ^ k) b, Nat.mul_assoc]
      have e2 : b ^ k * b * x = b * (b ^ k * x) := by rw [Nat.mul_comm (b ^ k) b, Nat.mul_assoc]
      have e3 : b * (val b (ys.set k x) + b ^ k * ys[k]?.getD 0) = b * (val b ys + b ^ k * x) := by rw [this]
      rw [Nat.mul_add, Nat.mul_add] at e3
      omega
/-- the greatest product of two digits -/
def MM : Nat := 4294836225
theorem nth_set_eq {xs : List Nat} {k x : Nat} (h : k < xs.length) : nth (xs.set k x) k = x := by
  simp [nth, h]

def TimI (ds es : List Nat) (N i j : Nat) (outs : List Nat) : Prop :=
  outs.length = N ∧ val D outs = val D (ds.take i) * val D es + D ^ i * nth ds i * val D (es.take j) ∧ (∀ k, nth outs k ≤ (i + 1) * MM) ∧ ∀ k, i + j ≤ k → nth outs k ≤ i * MM
section
variable {ds es outs : List Nat} {N i j : Nat}
theorem dd_le (hd : All D ds) (he : All D es) (i j : Nat) : nth ds i * nth es j ≤ MM := by
  have h1 := hd.nth D_pos i
  have h2 := he.nth D_pos j
  rw [D_eq] at h1 h2
  exact Nat.le_trans (Nat.mul_le_mul (Nat.le_pred_of_lt h1) (Nat.le_pred_of_lt h2)) (by decide)
theorem TimI.step (h : TimI ds es N i j outs) (hd : All D ds) (he : All D es) (hN : i + j < N) : TimI ds es N i (j + 1) (outs.set (i + j) (nth outs (i + j) + nth ds i * nth es j)) := by
  obtain ⟨h1, h2, h3, h4⟩ := h
  have hs := val_setD (b := D) (xs := outs) (k := i + j) (x := nth outs (i + j) + nth ds i * nth es j) (by omega)
  have hp := dd_le hd he i j
  refine ⟨by simpa using h1, ?_, ?_, ?_⟩
  · rw [val_take_succ' es j, Nat.mul_add, ← Nat.add_assoc, ← h2]
    rw [Nat.mul_add] at hs
    have e3 : D ^ i * nth ds i * (D ^ j * nth es j) = D ^ (i + j) * (nth ds i * nth es j) := by rw [Nat.mul_mul_mul_comm, ← Nat.pow_add]
    omega
  · intro k
    by_cases hk : k = i + j
    · subst hk
      rw [nth_set_eq (by omega), Nat.succ_mul]
      have := h4 (i + j) (Nat.le_refl _)
      omega
    · rw [nth_set_ne (by omega)]; exact h3 k
  · intro k hk
    rw [nth_set_ne (by omega)]; exact h4 k (by omega)
theorem TimI.row (h : TimI ds es N i es.length outs) (hi : i < ds.length) : TimI ds es N (i + 1) 0 outs := by
  obtain ⟨h1, h2, h3, h4⟩ := h
  refine ⟨h1, ?_, fun k => ?_, fun k _ => h3 k⟩
  · rw [h2, List.take_length, val_take_succ' ds i, Nat.add_mul]
    simp [val]
  · have := h3 k
    rw [Nat.succ_mul (i + 1)]
    omega
end
/-- place by place -/
def PlusI (ds es : List Nat) (i : Nat) (outs : List Nat) : Prop := outs.length = i ∧ (∀ k, k < i → nth outs k = nth ds k + nth es k) ∧ val D outs = val D (ds.take i) + val D (es.take i)
theorem PlusI.step {ds es outs : List Nat} {i : Nat} (h : PlusI ds es i outs) : PlusI ds es (i + 1) (outs ++ [nth ds i + nth es i]) := by
  obtain ⟨h1, h2, h3⟩ := h
  refine ⟨by simp [h1], fun k hk => ?_, ?_⟩
  · by_cases hki : k < i
    · rw [nth_lt (by simp; omega), List.getElem_append_left (by omega), ← nth_lt (by omega)]; exact h2 k hki
    · obtain rfl : k = i := by omega
      rw [nth_lt (by simp; omega)]
      simp [h1]
  · rw [val_append, h3, h1, val_take_succ' ds i, val_take_succ' es i]
    simp only [val, Nat.mul_zero, Nat.add_zero, Nat.mul_add]
    omega
end Go.Proofs.YtamfhmmcnlollaaGreat
