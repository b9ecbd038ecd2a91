/-
  The reference of layer 3: surdref03.Digits, Number, Same.
-/
import Derived.Test.YtjglonmnjcnhbaaDoorMulB
import Derived.IntWalk
namespace Go.Proofs.YtjglonmnjcnhbaaDoor
open Go.RowKit
set_option linter.unusedVariables false

theorem elI : Elem Tryd.prog 63 3 .i64 := ⟨Tryd.underlying63, by kernel_rfl⟩

/-- the digits' base -/
def D : Nat := 65536
theorem D_eq : D = 65536 := rfl
theorem D_pos : 0 < D := by decide
theorem D_gt : 1 < D := by decide
theorem W_D : W = D ^ 4 := by decide

theorem wds_snoc {b : Nat} (j x : Nat) : wds b (j + 1) x = wds b j x ++ [x / b ^ j % b] := by
  induction j generalizing x with
  | zero => simp [wds]
  | succ j ih =>
    rw [wds, ih, wds]
    simp only [List.cons_append]
    rw [Nat.div_div_eq_div_mul, Nat.pow_succ, Nat.mul_comm b]
theorem val_flat {xs : List Nat} (h : All W xs) : val D (xs.flatMap (wds D 4)) = val W xs := by
  induction xs with
  | nil => rfl
  | cons x xs ih =>
    rw [List.flatMap_cons, val_append, val_wds, wds_length, ih h.tail, val, ← W_D, Nat.mod_eq_of_lt h.head]
theorem flat_all (xs : List Nat) : All D (xs.flatMap (wds D 4)) := by
  intro x hx
  obtain ⟨y, _, hy⟩ := List.mem_flatMap.1 hx
  exact wds_all D_pos _ _ _ hy
theorem flat_length (xs : List Nat) : (xs.flatMap (wds D 4)).length = 4 * xs.length := by
  induction xs with
  | nil => rfl
  | cons x xs ih => rw [List.flatMap_cons, List.length_append, wds_length, ih, List.length_cons]; omega
theorem flat_take_succ {xs : List Nat} {k : Nat} (h : k < xs.length) : (xs.take (k + 1)).flatMap (wds D 4) = (xs.take k).flatMap (wds D 4) ++ wds D 4 (nth xs k) := by
  rw [List.take_succ_eq_append_getElem h, List.flatMap_append, nth_lt h]
  simp

/-- an own slice made shorter -/
theorem Own.upto {k : IntKind} {t : TypeId} {B n c j : Nat} {w : World} {A : Option Addr} {xs : List Nat} (h : Own k t B w A n c xs) (hj : j ≤ n) : Own k t B w A j c (xs.take j) := by
  have hl := h.len
  refine ⟨by simp [hl]; omega, ?_⟩
  rcases h.2 with ⟨h2, h3⟩ | ⟨g, cap, cur, hv, hg, hh, hnc, hcm, hs, ht⟩
  · injection h2 with e1 e2 e3
    subst h3
    have : j = 0 := by omega
    subst this
    exact .inl ⟨by rw [e1, e3], rfl⟩
  · injection hv with e1 e2 e3
    refine .inr ⟨g, cap, cur, by rw [e1, e3], hg, hh, by omega, hcm, hs, ?_⟩
    rw [Nat.mul_one] at ht ⊢
    rw [List.map_take, ← ht, List.take_take, Nat.min_eq_left hj]

theorem dgt (x j : Nat) (hx : x < W) (hj : j < 4) : wrap64 (bits .and .u64 ((x : Int) / 2 ^ (16 * j)) 65535) = ((x / D ^ j % D : Nat) : Int) := by
  have e : x / 2 ^ (16 * j) < 18446744073709551616 := Nat.lt_of_le_of_lt (Nat.div_le_self _ _) hx
  have h := bits_and_u64_nat (x / 2 ^ (16 * j)) 65535 e (by omega)
  have e2 : x / 2 ^ (16 * j) &&& 65535 = x / 2 ^ (16 * j) % 65536 := Nat.and_two_pow_sub_one_eq_mod _ 16
  rw [e2] at h
  have e3 : (x : Int) / 2 ^ (16 * j) = ((x / 2 ^ (16 * j) : Nat) : Int) := by
    rw [Int.natCast_ediv, Int.natCast_pow]; rfl
  have e4 : D ^ j = 2 ^ (16 * j) := by rw [D_eq, show (65536 : Nat) = 2 ^ 16 from rfl, ← Nat.pow_mul]
  rw [e3, e4]
  refine Eq.trans (congrArg wrap64 h) ?_
  rw [D_eq]
  exact IntWalk.wrap64_in _ ⟨by omega, by omega⟩

/-- what a call gives that answers new digits -/
def GD (w : World) (ds : List Nat) (e : Ending) (w' : World) : Prop :=
  ∃ A n c, e = .returned (.slice A n c) ∧ Own .i64 3 w.heap.size w' A n c ds ∧ Below w.heap.size w w'

end Go.Proofs.YtjglonmnjcnhbaaDoor
