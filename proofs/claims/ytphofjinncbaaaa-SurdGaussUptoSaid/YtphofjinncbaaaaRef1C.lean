/-
  The reference of layer 1: surdref01.Words, power, Times.
-/
import Derived.Test.YtphofjinncbaaaaRef1B
namespace Go.Proofs.Ytphofjinncbaaaa
open Go.RowKit
set_option linter.unusedVariables false

/-- r digits of the word i, from its top -/
def part (ds : List Nat) (i : Nat) : Nat → Nat
  | 0 => 0
  | r + 1 => part ds i r * 65536 + nth ds (4 * i + (3 - r))
theorem part_lt {ds : List Nat} (h : All D ds) (i r : Nat) : part ds i r < D ^ r := by
  induction r with
  | zero => simp [part]
  | succ r ih =>
    have := h.nth D_pos (4 * i + (3 - r))
    rw [part, Nat.pow_succ]
    generalize part ds i r = p at *
    have h2 : (p + 1) * D ≤ D ^ r * D := Nat.mul_le_mul_right _ ih
    rw [Nat.add_mul, D_eq] at h2
    rw [D_eq] at *
    omega
theorem val_split {b : Nat} (xs : List Nat) (k : Nat) : ∃ r, val b xs = val b (xs.take k) + b ^ k * r := by
  by_cases h : xs.length ≤ k
  · exact ⟨0, by rw [val_take_ge h]; simp⟩
  · refine ⟨val b (xs.drop k), ?_⟩
    have := val_append (b := b) (xs.take k) (xs.drop k)
    rw [List.take_append_drop, List.length_take, Nat.min_eq_left (by omega)] at this
    exact this
theorem part_four {ds : List Nat} (h : All D ds) (i : Nat) : part ds i 4 = val D ds / W ^ i % W := by
  obtain ⟨r, hr⟩ := val_split (b := D) ds (4 * i + 4)
  have h1 := val_take_lt h D_pos (4 * i)
  have h2 := part_lt h i 4
  have e : val D (ds.take (4 * i + 4)) = val D (ds.take (4 * i)) + D ^ (4 * i) * part ds i 4 := by
    rw [val_take_succ', val_take_succ' ds (4 * i + 2), val_take_succ' ds (4 * i + 1), val_take_succ' ds (4 * i)]
    have p3 : D ^ (4 * i + 3) = D ^ (4 * i) * 281474976710656 := by rw [Nat.pow_add]; rfl
    have p2 : D ^ (4 * i + 2) = D ^ (4 * i) * 4294967296 := by rw [Nat.pow_add]; rfl
    have p1 : D ^ (4 * i + 1) = D ^ (4 * i) * 65536 := by rw [Nat.pow_add]; rfl
    rw [p1, p2, p3]
    simp only [part]
    generalize D ^ (4 * i) = q
    simp only [Nat.sub_zero, Nat.zero_mul, Nat.zero_add, Nat.reduceSub, Nat.add_zero, Nat.add_mul, Nat.mul_add]
    generalize nth ds (4 * i) = a0
    generalize nth ds (4 * i + 1) = a1
    generalize nth ds (4 * i + 2) = a2
    generalize nth ds (4 * i + 3) = a3
    simp only [Nat.mul_comm, Nat.mul_left_comm]
    simp only [← Nat.mul_assoc, Nat.reduceMul]
    simp only [Nat.mul_assoc]
    omega
  have ew : W ^ i = D ^ (4 * i) := by rw [W_D, ← Nat.pow_mul]
  have e2 : D ^ (4 * i + 4) = D ^ (4 * i) * W := by rw [Nat.pow_add, W_D]
  rw [hr, e, ew, e2, Nat.mul_assoc, Nat.add_assoc, ← Nat.mul_add, Nat.add_mul_div_left _ _ (Nat.pow_pos D_pos), Nat.div_eq_of_lt h1, Nat.zero_add, Nat.add_mul_mod_self_left]
  rw [← W_D] at h2
  rw [Nat.mod_eq_of_lt h2]
theorem nth_wds {b n x i : Nat} (h : i < n) : nth (wds b n x) i = x / b ^ i % b := by
  induction n generalizing x i with
  | zero => omega
  | succ n ih =>
    cases i with
    | zero => simp [wds, nth]
    | succ i =>
      have := ih (x := x / b) (i := i) (by omega)
      rw [Nat.div_div_eq_div_mul, ← Nat.pow_succ'] at this
      rw [← this]
      simp [wds, nth]

/-- i words are done -/
def WrdI (ds : List Nat) (n i : Nat) (outs : List Nat) : Prop :=
  outs.length = n ∧ (∀ j, j < i → nth outs j = val D ds / W ^ j % W) ∧ ∀ j, i ≤ j → nth outs j = 0
theorem WrdI.step {ds outs : List Nat} {n i : Nat} (h : WrdI ds n i outs) (hd : All D ds) (hi : i < n) : WrdI ds n (i + 1) (outs.set i (part ds i 4)) := by
  obtain ⟨h1, h2, h3⟩ := h
  refine ⟨by simpa using h1, fun j hj => ?_, fun j hj => ?_⟩
  · by_cases hji : j = i
    · subst hji
      rw [← part_four hd]
      simp [nth, h1, hi]
    · rw [nth_set_ne (by omega)]; exact h2 j (by omega)
  · rw [nth_set_ne (by omega)]; exact h3 j (by omega)
theorem WrdI.done {ds outs : List Nat} {n : Nat} (h : WrdI ds n n outs) : outs = wds W n (val D ds) := by
  obtain ⟨h1, h2, h3⟩ := h
  refine eq_of_nth (by rw [h1, wds_length]) fun i hi => ?_
  rw [h2 i (by omega), nth_wds (by omega)]

/-- k digits of the row of a are done -/
def RowJ (es : List Nat) (m i a k cn : Nat) (row : List Nat) : Prop :=
  All D row ∧ row.length = i + k ∧ cn < 65536 ∧ k ≤ m + 1 ∧ (m < k → cn = 0) ∧ val D row + D ^ (i + k) * cn = D ^ i * (a * val D (es.take k))
theorem RowJ.step {es row : List Nat} {m i a k cn : Nat} (h : RowJ es m i a k cn row) (he : All D es) (hm : es.length = m) (ha : a < 65536) (hgo : k < m ∨ 0 < cn) :
    RowJ es m i a (k + 1) ((cn + a * nth es k) / 65536) (row ++ [(cn + a * nth es k) % 65536]) := by
  obtain ⟨g1, g2, g3, g4, g5, g6⟩ := h
  have b1 : nth es k < 65536 := he.nth D_pos k
  have b2 : a * nth es k ≤ 65535 * 65535 := Nat.mul_le_mul (by omega) (by omega)
  refine ⟨g1.append (All.cons (Nat.mod_lt _ D_pos) All.nil), by simp [g2]; omega, by omega, by omega, ?_, ?_⟩
  · intro hk
    have e1 : nth es k = 0 := nth_ge (by omega)
    rw [e1]
    omega
  · rw [val_append, val_take_succ', g2]
    simp only [val, Nat.mul_zero, Nat.add_zero]
    have e := Nat.mod_add_div (cn + a * nth es k) 65536
    have e2 : D ^ (i + k) * ((cn + a * nth es k) % 65536 + 65536 * ((cn + a * nth es k) / 65536)) = D ^ (i + k) * (cn + a * nth es k) := by rw [e]
    generalize (cn + a * nth es k) % 65536 = r at *
    generalize (cn + a * nth es k) / 65536 = q at *
    have e3 : D ^ i * (a * (val D (es.take k) + D ^ k * nth es k)) = D ^ i * (a * val D (es.take k)) + D ^ (i + k) * (a * nth es k) := by
      rw [Nat.mul_add, Nat.mul_add, Nat.pow_add, Nat.mul_left_comm a, Nat.mul_assoc]
    rw [e3, ← g6]
    rw [Nat.mul_add, Nat.mul_add, ← Nat.mul_assoc] at e2
    rw [← Nat.add_assoc, Nat.pow_succ, D_eq] at *
    omega
theorem RowJ.done {es row : List Nat} {m i a k cn : Nat} (h : RowJ es m i a k cn row) (hm : es.length = m) (h1 : ¬ k < m) (h2 : ¬ 0 < cn) : All D row ∧ val D row = D ^ i * (a * val D es) ∧ row.length ≤ i + m + 1 := by
  obtain ⟨g1, g2, g3, g4, g5, g6⟩ := h
  obtain rfl : cn = 0 := by omega
  rw [val_take_ge (by omega)] at g6
  exact ⟨g1, by omega, by omega⟩

end Go.Proofs.Ytphofjinncbaaaa
