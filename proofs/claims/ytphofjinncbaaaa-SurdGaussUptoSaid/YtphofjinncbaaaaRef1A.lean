/-
  The reference of layer 1: surdref01.Digits, digit, Plus, Compare, Minus.
-/
import Derived.Test.YtphofjinncbaaaaRef3D
namespace Go.Proofs.Ytphofjinncbaaaa
open Go.RowKit
set_option linter.unusedVariables false

/-- the value v reads as digits of the number x, at most L of them -/
def Dgs (w : World) (v : Value) (x L : Nat) : Prop := ∃ A n c xs, v = .slice A n c ∧ Rd .i64 w A n c xs ∧ All D xs ∧ val D xs = x ∧ n ≤ L
/-- a call gives new digits of the number x -/
def GG (w : World) (x L : Nat) (e : Ending) (w' : World) : Prop :=
  ∃ A n c xs, e = .returned (.slice A n c) ∧ Own .i64 3 w.heap.size w' A n c xs ∧ All D xs ∧ val D xs = x ∧ Below w.heap.size w w' ∧ n ≤ L
theorem Dgs.below {w w' : World} {v : Value} {x L : Nat} (h : Dgs w v x L) (hb : Below w.heap.size w w') : Dgs w' v x L := by
  obtain ⟨A, n, c, xs, h1, h2, h3⟩ := h
  exact ⟨A, n, c, xs, h1, h2.below hb, h3⟩
theorem Dgs.more {w : World} {v : Value} {x L L' : Nat} (h : Dgs w v x L) (hl : L ≤ L') : Dgs w v x L' := by
  obtain ⟨A, n, c, xs, h1, h2, h3, h4, h5⟩ := h
  exact ⟨A, n, c, xs, h1, h2, h3, h4, by omega⟩
theorem Dgs.lt {w : World} {v : Value} {x L : Nat} (h : Dgs w v x L) : x < D ^ L := by
  obtain ⟨A, n, c, xs, h1, h2, h3, h4, h5⟩ := h
  have := val_lt h3
  rw [h2.len, h4] at this
  exact Nat.lt_of_lt_of_le this (Nat.pow_le_pow_right D_pos h5)
theorem Own.dig {t : TypeId} {B n c x L : Nat} {w : World} {A : Option Addr} {xs : List Nat} (h : Own .i64 t B w A n c xs) (ha : All D xs) (hv : val D xs = x) (hl : n ≤ L) : Dgs w (.slice A n c) x L := ⟨A, n, c, xs, rfl, h.rd, ha, hv, hl⟩

/-- i digits of the sum are done -/
def PlusJ (xs ys : List Nat) (n m i cn : Nat) (outs : List Nat) : Prop :=
  All D outs ∧ outs.length = i ∧ cn ≤ 1 ∧ i ≤ max n m + 1 ∧ (max n m < i → cn = 0 ∧ D ^ max n m ≤ val D outs) ∧ val D outs + D ^ i * cn = val D (xs.take i) + val D (ys.take i)
theorem PlusJ.step {xs ys : List Nat} {n m i cn : Nat} {outs : List Nat} (h : PlusJ xs ys n m i cn outs) (hx : All D xs) (hy : All D ys) (h1 : xs.length = n) (h2 : ys.length = m) (hgo : i < n ∨ i < m ∨ 0 < cn) :
    PlusJ xs ys n m (i + 1) ((cn + (nth xs i + nth ys i)) / 65536) (outs ++ [(cn + (nth xs i + nth ys i)) % 65536]) := by
  obtain ⟨g1, g2, g3, g4, g5, g6⟩ := h
  have b1 := hx.nth D_pos i
  have b2 := hy.nth D_pos i
  rw [D_eq] at b1 b2
  refine ⟨g1.append (All.cons (Nat.mod_lt _ D_pos) All.nil), by simp [g2], by omega, by omega, ?_, ?_⟩
  · intro hm
    have e1 : nth xs i = 0 := nth_ge (by omega)
    have e2 : nth ys i = 0 := nth_ge (by omega)
    have e3 : ¬ max n m < i := fun h => by have := (g5 h).1; omega
    have e4 : cn = 1 := by omega
    have e5 : i = max n m := by omega
    refine ⟨by omega, ?_⟩
    rw [val_append, g2, e1, e2, e4, ← e5]
    simp only [val]
    omega
  · rw [val_append, val_take_succ', val_take_succ', g2]
    simp only [val, Nat.mul_zero, Nat.add_zero]
    have e := Nat.mod_add_div (cn + (nth xs i + nth ys i)) 65536
    generalize (cn + (nth xs i + nth ys i)) % 65536 = r at *
    generalize (cn + (nth xs i + nth ys i)) / 65536 = q at *
    have e2 : D ^ i * (r + 65536 * q) = D ^ i * (cn + (nth xs i + nth ys i)) := by rw [e]
    rw [Nat.mul_add, Nat.mul_add, Nat.mul_add, ← Nat.mul_assoc] at e2
    rw [Nat.pow_succ, D_eq] at *
    omega
theorem PlusJ.done {xs ys : List Nat} {n m i cn : Nat} {outs : List Nat} (h : PlusJ xs ys n m i cn outs) (h1 : xs.length = n) (h2 : ys.length = m) (hn : ¬ i < n) (hm : ¬ i < m) (hc : ¬ 0 < cn) {K : Nat} (hK : max n m ≤ K) (hV : val D xs + val D ys < D ^ K) :
    All D outs ∧ val D outs = val D xs + val D ys ∧ outs.length ≤ K := by
  obtain ⟨g1, g2, g3, g4, g5, g6⟩ := h
  obtain rfl : cn = 0 := by omega
  rw [val_take_ge (by omega), val_take_ge (by omega)] at g6
  have e : val D outs = val D xs + val D ys := by omega
  refine ⟨g1, e, ?_⟩
  by_cases hi : max n m < i
  · have h := (g5 hi).2
    have := (Nat.pow_lt_pow_iff_right D_gt).1 (Nat.lt_of_le_of_lt h (by rw [e]; exact hV))
    omega
  · omega

end Go.Proofs.Ytphofjinncbaaaa
