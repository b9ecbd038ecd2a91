/-
  The reference of layer 1: surdref01.Compare, Minus, Words, power.
-/
import Derived.Test.YtphofjinncbaaaaRef1A
namespace Go.Proofs.Ytphofjinncbaaaa
open Go.RowKit
set_option linter.unusedVariables false

/-- -1, 0, 1 -/
def cmpN (x y : Nat) : Int := if x < y then -1 else if y < x then 1 else 0
theorem val_take_lt {b : Nat} {xs : List Nat} (h : All b xs) (hb : 0 < b) (m : Nat) : val b (xs.take m) < b ^ m := by
  have h1 := val_lt (h.take m)
  have h2 : (xs.take m).length ≤ m := by rw [List.length_take]; omega
  exact Nat.lt_of_lt_of_le h1 (Nat.pow_le_pow_right hb h2)
theorem val_take_eq {b : Nat} {xs ys : List Nat} (h : ∀ j, nth xs j = nth ys j) (k : Nat) : val b (xs.take k) = val b (ys.take k) := by
  induction k with
  | zero => simp [val]
  | succ k ih => rw [val_take_succ', val_take_succ', ih, h]
theorem val_eq_nth {b : Nat} {xs ys : List Nat} (h : ∀ j, nth xs j = nth ys j) : val b xs = val b ys := by
  have := val_take_eq (b := b) h (max xs.length ys.length)
  rwa [val_take_ge (by omega), val_take_ge (by omega)] at this
theorem val_lt_nth {b : Nat} {xs ys : List Nat} (hx : All b xs) (hb : 0 < b) {m : Nat} (h : ∀ j, m < j → nth xs j = nth ys j) (hm : nth xs m < nth ys m) : val b xs < val b ys := by
  have key : ∀ d, val b (xs.take (m + 1 + d)) < val b (ys.take (m + 1 + d)) := by
    intro d
    induction d with
    | zero =>
      rw [Nat.add_zero, val_take_succ', val_take_succ']
      have h1 := val_take_lt hx hb m
      have h2 : b ^ m * (nth xs m + 1) ≤ b ^ m * nth ys m := Nat.mul_le_mul_left _ hm
      rw [Nat.mul_add, Nat.mul_one] at h2
      omega
    | succ d ih =>
      rw [← Nat.add_assoc, val_take_succ', val_take_succ', h (m + 1 + d) (by omega)]
      omega
  have := key (max xs.length ys.length)
  rwa [val_take_ge (by omega), val_take_ge (by omega)] at this

/-- i digits of the difference are done -/
def MinJ (xs ys : List Nat) (i cn : Nat) (outs : List Nat) : Prop :=
  All D outs ∧ outs.length = i ∧ cn ≤ 1 ∧ val D (xs.take i) + D ^ i * cn = val D outs + val D (ys.take i)
theorem MinJ.step {xs ys : List Nat} {i cn z cn' : Nat} {outs : List Nat} (h : MinJ xs ys i cn outs) (hz : z < 65536) (hc : cn' ≤ 1) (he : nth xs i + 65536 * cn' = z + nth ys i + cn) : MinJ xs ys (i + 1) cn' (outs ++ [z]) := by
  obtain ⟨g1, g2, g3, g4⟩ := h
  refine ⟨g1.append (All.cons hz All.nil), by simp [g2], hc, ?_⟩
  rw [val_append, val_take_succ', val_take_succ', g2]
  simp only [val, Nat.mul_zero, Nat.add_zero]
  have e2 : D ^ i * (nth xs i + 65536 * cn') = D ^ i * (z + nth ys i + cn) := by rw [he]
  rw [Nat.mul_add, Nat.mul_add, Nat.mul_add, ← Nat.mul_assoc] at e2
  rw [Nat.pow_succ, D_eq] at *
  omega
theorem MinJ.done {xs ys : List Nat} {n cn : Nat} {outs : List Nat} (h : MinJ xs ys n cn outs) (h1 : xs.length = n) (hx : All D xs) (hy : All D ys) (hle : val D ys ≤ val D xs) :
    All D outs ∧ val D outs = val D xs - val D ys := by
  obtain ⟨g1, g2, g3, g4⟩ := h
  rw [val_take_ge (by omega)] at g4
  have a1 := val_lt g1
  have a2 := val_lt hx
  rw [g2] at a1
  rw [h1] at a2
  have a3 : val D ys = val D (ys.take n) + D ^ (ys.take n).length * val D (ys.drop n) := by rw [← val_append, List.take_append_drop]
  have a4 : val D (ys.take n) = val D ys := by
    by_cases hl : ys.length ≤ n
    · exact val_take_ge hl
    · rw [List.length_take, Nat.min_eq_left (by omega)] at a3
      have : val D (ys.drop n) = 0 := by
        rcases Nat.eq_zero_or_pos (val D (ys.drop n)) with h | h
        · exact h
        · have : D ^ n * 1 ≤ D ^ n * val D (ys.drop n) := Nat.mul_le_mul_left _ h
          omega
      rw [a3, this]; simp
  refine ⟨g1, ?_⟩
  have : cn = 0 ∨ cn = 1 := by omega
  rcases this with rfl | rfl
  · omega
  · omega

end Go.Proofs.Ytphofjinncbaaaa
