/-
  The reference of layer 3: surdref03.Digits, Number, Same. The reference of layer 3: surdref03.Number, Norm, Same, times, plus.
-/
import Derived.Test.YtamfhmmcnlollaaGreatMulX
import Derived.IntWalk
namespace Go.Proofs.YtamfhmmcnlollaaGreat
open Go.RowKit
set_option linter.unusedVariables false

theorem elI : Elem Tryz.prog 33 3 .i64 := ⟨Tryz.underlying33, by kernel_rfl⟩

/-- the digits' base -/
def D : Nat := 65536
theorem D_eq : D = 65536 := rfl
theorem D_pos : 0 < D := by decide
theorem D_gt : 1 < D := by decide
theorem W_D : W = D ^ 4 := by decide

theorem wds_snoc {b : Nat} (j x : Nat) : wds b (j + 1) x = wds b j x ++ [x / b ^ j % b] := by
  induction j generalizing x with
  | zero => simp [wds]
  | succ j ih =>
    rw [wds, ih, wds]
    simp only [List.cons_append]
    rw [Nat.div_div_eq_div_mul, Nat.pow_succ, Nat.mul_comm b]
theorem val_flat {xs : List Nat} (h : All W xs) : val D (xs.flatMap (wds D 4)) = val W xs := by
  induction xs with
  | nil => rfl
  | cons x xs ih =>
    rw [List.flatMap_cons, val_append, val_wds, wds_length, ih h.tail, val, ← W_D, Nat.mod_eq_of_lt h.head]
theorem flat_all (xs : List Nat) : All D (xs.flatMap (wds D 4)) := by
  intro x hx
  obtain ⟨y, _, hy⟩ := List.mem_flatMap.1 hx
  exact wds_all D_pos _ _ _ hy
theorem flat_length (xs : List Nat) : (xs.flatMap (wds D 4)).length = 4 * xs.length := by
  induction xs with
  | nil => rfl
  | cons x xs ih => rw [List.flatMap_cons, List.length_append, wds_length, ih, List.length_cons]; omega
theorem flat_take_succ {xs : List Nat} {k : Nat} (h : k < xs.length) : (xs.take (k + 1)).flatMap (wds D 4) = (xs.take k).flatMap (wds D 4) ++ wds D 4 (nth xs k) := by
  rw [List.take_succ_eq_append_getElem h, List.flatMap_append, nth_lt h]
  simp

/-- an own slice made shorter -/
theorem Own.upto {k : IntKind} {t : TypeId} {B n c j : Nat} {w : World} {A : Option Addr} {xs : List Nat} (h : Own k t B w A n c xs) (hj : j ≤ n) : Own k t B w A j c (xs.take j) := by
  have hl := h.len
  refine ⟨by simp [hl]; omega, ?_⟩
  rcases h.2 with ⟨h2, h3⟩ | ⟨g, cap, cur, hv, hg, hh, hnc, hcm, hs, ht⟩
  · injection h2 with e1 e2 e3
    subst h3
    have : j = 0 := by omega
    subst this
    exact .inl ⟨by rw [e1, e3], rfl⟩
  · injection hv with e1 e2 e3
    refine .inr ⟨g, cap, cur, by rw [e1, e3], hg, hh, by omega, hcm, hs, ?_⟩
    rw [Nat.mul_one] at ht ⊢
    rw [List.map_take, ← ht, List.take_take, Nat.min_eq_left hj]

/-- what a call gives that answers new digits -/
def GD (w : World) (ds : List Nat) (e : Ending) (w' : World) : Prop :=
  ∃ A n c, e = .returned (.slice A n c) ∧ Own .i64 3 w.heap.size w' A n c ds ∧ Below w.heap.size w w'

end Go.Proofs.YtamfhmmcnlollaaGreat
namespace Go.Proofs.YtamfhmmcnlollaaGreat
open Go.RowKit
set_option linter.unusedVariables false

/-- i digits are done: the words, the word at hand, what is carried -/
def NumI (ds : List Nat) (i cn wd : Nat) (outs : List Nat) : Prop :=
  All W outs ∧ outs.length = i / 4 ∧ wd < D ^ (i % 4) ∧ val W outs + W ^ (i / 4) * wd + D ^ i * cn = val D (ds.take i)
def NumC (n i cn : Nat) : Prop := i ≤ (n + 6) / 4 * 4 ∧ cn < 140737488355328 ∧ (n ≤ i → cn * 65536 ^ (i - n) < 140737488355328)
theorem NumC.step {n i cn d : Nat} (h : NumC n i cn) (hgo : i < n ∨ 0 < cn ∨ i % 4 ≠ 0) (hd : d < 4611686018427387904) (hd0 : n ≤ i → d = 0) : NumC n (i + 1) ((cn + d) / 65536) := by
  obtain ⟨h1, h2, h3⟩ := h
  by_cases hlt : i < n
  · refine ⟨by omega, by omega, fun h => ?_⟩
    have : i + 1 - n = 0 := by omega
    rw [this, Nat.pow_zero, Nat.mul_one]
    omega
  · have e0 := hd0 (by omega)
    subst e0
    have h3' := h3 (by omega)
    have hp : 0 < 65536 ^ (i - n) := Nat.pow_pos (by omega)
    refine ⟨?_, by omega, fun _ => ?_⟩
    · by_cases hc : cn = 0
      · omega
      · have h5 : ¬ 3 ≤ i - n := fun h3 => by
          have h4 : 65536 ^ 3 ≤ 65536 ^ (i - n) := Nat.pow_le_pow_right (by omega) h3
          have h5 : 1 * 65536 ^ 3 ≤ cn * 65536 ^ (i - n) := Nat.mul_le_mul (by omega) h4
          omega
        omega
    · rw [show i + 1 - n = (i - n) + 1 by omega, Nat.pow_succ, Nat.add_zero, Nat.mul_comm (65536 ^ (i - n)), ← Nat.mul_assoc]
      exact Nat.lt_of_le_of_lt (Nat.mul_le_mul_right _ (Nat.div_mul_le_self _ _)) h3'
theorem W_pow (i : Nat) : W ^ (i / 4) * D ^ (i % 4) = D ^ i := by
  rw [W_D, ← Nat.pow_mul, ← Nat.pow_add]; congr 1; omega
theorem NumI.core {ds outs : List Nat} {i cn wd : Nat} (h : NumI ds i cn wd outs) :
    val W outs + W ^ (i / 4) * (wd + (cn + nth ds i) % D * D ^ (i % 4)) + D ^ (i + 1) * ((cn + nth ds i) / D) = val D (ds.take (i + 1)) ∧ wd + (cn + nth ds i) % D * D ^ (i % 4) < D ^ (i % 4) * D := by
  obtain ⟨h1, h2, h3, h5⟩ := h
  rw [val_take_succ' ds i, ← h5]
  have e1 := Nat.mod_add_div (cn + nth ds i) D
  have e2 := Nat.mod_lt (cn + nth ds i) D_pos
  generalize (cn + nth ds i) % D = r at *
  generalize (cn + nth ds i) / D = q at *
  have e3 := W_pow i
  have e4 : W ^ (i / 4) * (wd + r * D ^ (i % 4)) = W ^ (i / 4) * wd + D ^ i * r := by
    rw [Nat.mul_add, Nat.mul_comm r, ← Nat.mul_assoc, e3]
  have e5 : D ^ i * r + D ^ (i + 1) * q = D ^ i * cn + D ^ i * nth ds i := by
    rw [Nat.pow_succ, Nat.mul_assoc, ← Nat.mul_add, e1, Nat.mul_add]
  refine ⟨by omega, ?_⟩
  have : D ^ (i % 4) * (r + 1) ≤ D ^ (i % 4) * D := Nat.mul_le_mul_left _ e2
  rw [Nat.mul_add, Nat.mul_one, Nat.mul_comm _ r] at this
  omega
theorem NumI.next {ds outs : List Nat} {i cn wd : Nat} (h : NumI ds i cn wd outs) (h3 : i % 4 ≠ 3) :
    NumI ds (i + 1) ((cn + nth ds i) / D) (wd + (cn + nth ds i) % D * D ^ (i % 4)) outs := by
  obtain ⟨c1, c2⟩ := h.core
  refine ⟨h.1, by rw [h.2.1]; omega, ?_, ?_⟩
  · rw [show (i + 1) % 4 = i % 4 + 1 by omega, Nat.pow_succ]; exact c2
  · rw [show (i + 1) / 4 = i / 4 by omega]; exact c1
theorem NumI.word {ds outs : List Nat} {i cn wd : Nat} (h : NumI ds i cn wd outs) (h3 : i % 4 = 3) :
    NumI ds (i + 1) ((cn + nth ds i) / D) 0 (outs ++ [wd + (cn + nth ds i) % D * D ^ (i % 4)]) := by
  obtain ⟨c1, c2⟩ := h.core
  have c3 : wd + (cn + nth ds i) % D * D ^ (i % 4) < W := by
    rw [W_D]; rw [← Nat.pow_succ, h3] at c2; rw [h3]; exact c2
  refine ⟨h.1.append (All.cons c3 All.nil), ?_, ?_, ?_⟩
  · rw [List.length_append, h.2.1]; simp; omega
  · exact Nat.pow_pos D_pos
  · rw [val_append, h.2.1]
    simp only [val, Nat.mul_zero, Nat.add_zero]
    exact c1
end Go.Proofs.YtamfhmmcnlollaaGreat
