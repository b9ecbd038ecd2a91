/-
  The numbers behind math/bits.Div64: no program here.
-/
import Derived.Test.YtjglonmnjcnhbaaDoorBitsB
import Derived.Test.YtjglonmnjcnhbaaDoorWord
namespace Go.Proofs.YtjglonmnjcnhbaaDoor
set_option linter.unusedVariables false

/-- half a word's base -/
def B : Nat := 4294967296
theorem B_eq : B = 4294967296 := rfl
theorem W_BB : W = B * B := by decide

theorem norm_y {y : Nat} (hy : y < W) (h0 : 0 < y) : y * 2 ^ (64 - blen y) < W ∧ W ≤ 2 * (y * 2 ^ (64 - blen y)) ∧ 64 - blen y ≤ 63 := by
  have h1 := blen_lt hy
  obtain ⟨h2, h3⟩ := blen_ge hy h0
  have h4 := blen_le hy
  obtain ⟨m, hm⟩ : ∃ m, blen y = m + 1 := ⟨blen y - 1, by omega⟩
  rw [hm] at h1 h2 h4 ⊢
  have e1 : 2 ^ (m + 1) * 2 ^ (64 - (m + 1)) = W := by rw [← Nat.pow_add, show m + 1 + (64 - (m + 1)) = 64 by omega]; rfl
  have e2 : 2 * (2 ^ m * 2 ^ (64 - (m + 1))) = W := by
    rw [← e1, Nat.pow_succ, Nat.mul_comm (2 ^ m) 2, Nat.mul_assoc]
  refine ⟨?_, ?_, by omega⟩
  · rw [← e1]; exact Nat.mul_lt_mul_of_pos_right h1 (Nat.pow_pos (by omega))
  · rw [← e2]
    have h5 : 2 ^ m ≤ y := h2
    exact Nat.mul_le_mul_left 2 (Nat.mul_le_mul_right _ h5)

theorem low_part {l s : Nat} (hl : l < W) (hs : s ≤ 63) : l * 2 ^ s = l / 2 ^ (64 - s) * W + l * 2 ^ s % W ∧ l / 2 ^ (64 - s) < 2 ^ s := by
  have e1 : 2 ^ (64 - s) * 2 ^ s = W := by rw [← Nat.pow_add, show 64 - s + s = 64 by omega]; rfl
  have e2 : l * 2 ^ s / W = l / 2 ^ (64 - s) := by
    rw [← e1, Nat.mul_comm l, Nat.mul_comm (2 ^ (64 - s)) (2 ^ s), Nat.mul_div_mul_left _ _ (Nat.pow_pos (by omega))]
  refine ⟨?_, ?_⟩
  · rw [← e2, Nat.mul_comm _ W]; exact (Nat.div_add_mod _ _).symm
  · refine Nat.div_lt_of_lt_mul ?_
    rw [e1]; exact hl

theorem u32_lt {h l y s : Nat} (hl : l < W) (hs : s ≤ 63) (hh : h < y) : h * 2 ^ s + l / 2 ^ (64 - s) < y * 2 ^ s := by
  have h1 := (low_part hl hs).2
  have h2 : (h + 1) * 2 ^ s ≤ y * 2 ^ s := Nat.mul_le_mul_right _ hh
  rw [Nat.add_mul] at h2
  omega

/-- the loop: qh is the digit or too great, rh what it leaves -/
def Dig (Y y1 y0 u u1 qh rh : Nat) : Prop := qh * y1 + rh = u ∧ (u * B + u1) / Y ≤ qh ∧ qh ≤ B + 1 ∧ rh < B
section
variable {Y y1 y0 u u1 qh rh : Nat}
theorem Dig.start (hY : Y = y1 * B + y0) (hy0 : y0 < B) (h2 : B ≤ 2 * y1) (hu : u < Y) (hu1 : u1 < B) (hy1 : y1 < B) : Dig Y y1 y0 u u1 (u / y1) (u % y1) := by
  have hp : 0 < y1 := by rw [B_eq] at h2; omega
  refine ⟨by rw [Nat.mul_comm]; exact Nat.div_add_mod _ _, ?_, ?_, Nat.lt_trans (Nat.mod_lt _ hp) hy1⟩
  · -- (u B + u1) / Y ≤ u / y1
    have e1 : (u * B + u1) / Y ≤ (u * B + u1) / (y1 * B) := Nat.div_le_div_left (by omega) (Nat.mul_pos hp (by decide))
    have e2 : (u * B + u1) / (y1 * B) = u / y1 := by
      rw [Nat.mul_comm y1 B, ← Nat.div_div_eq_div_mul, Nat.mul_comm u B, Nat.mul_add_div (by decide), Nat.div_eq_of_lt hu1, Nat.add_zero]
    omega
  · refine Nat.lt_succ_iff.1 (Nat.div_lt_of_lt_mul ?_)
    have : y1 * (B + 1 + 1) = y1 * B + 2 * y1 := by rw [Nat.mul_add, Nat.mul_add]; omega
    show u < y1 * (B + 1 + 1)
    omega
/-- it is too great -/
theorem Dig.over (h : Dig Y y1 y0 u u1 qh rh) (hY : Y = y1 * B + y0) (hu : u < Y) (hu1 : u1 < B) (ht : B ≤ qh ∨ B * rh + u1 < qh * y0) : (u * B + u1) / Y < qh := by
  obtain ⟨h1, h2, h3, h4⟩ := h
  rcases ht with ht | ht
  · refine Nat.lt_of_lt_of_le (Nat.div_lt_of_lt_mul ?_) ht
    have : (u + 1) * B ≤ Y * B := Nat.mul_le_mul_right _ hu
    rw [Nat.add_mul] at this
    omega
  · refine Nat.div_lt_of_lt_mul ?_
    rw [hY, Nat.mul_comm (y1 * B + y0) qh, Nat.mul_add, ← Nat.mul_assoc, ← h1, Nat.add_mul, Nat.mul_comm rh B]
    omega
/-- it is right -/
theorem Dig.fits (h : Dig Y y1 y0 u u1 qh rh) (hY : Y = y1 * B + y0) (h0 : 0 < Y) (ht : qh * y0 ≤ B * rh + u1) : qh = (u * B + u1) / Y := by
  obtain ⟨h1, h2, h3, h4⟩ := h
  refine Nat.le_antisymm ((Nat.le_div_iff_mul_le h0).2 ?_) h2
  rw [hY, Nat.mul_add, ← Nat.mul_assoc, ← h1, Nat.add_mul, Nat.mul_comm rh B]
  omega
theorem Dig.next {q1 : Nat} (h : Dig Y y1 y0 u u1 (q1 + 1) rh) (hlt : (u * B + u1) / Y < q1 + 1) (hb : rh + y1 < B) : Dig Y y1 y0 u u1 q1 (rh + y1) := by
  obtain ⟨h1, h2, h3, h4⟩ := h
  refine ⟨?_, by omega, by omega, hb⟩
  rw [← h1, Nat.add_mul]; omega
theorem Dig.break {q1 : Nat} (h : Dig Y y1 y0 u u1 (q1 + 1) rh) (hY : Y = y1 * B + y0) (hy0 : y0 < B) (h0 : 0 < Y) (hlt : (u * B + u1) / Y < q1 + 1) (hb : B ≤ rh + y1) : q1 = (u * B + u1) / Y := by
  obtain ⟨h1, h2, h3, h4⟩ := h
  refine Nat.le_antisymm ((Nat.le_div_iff_mul_le h0).2 ?_) (by omega)
  have e1 : q1 * y1 + (rh + y1) = u := by rw [← h1, Nat.add_mul]; omega
  have e2 : q1 * y0 ≤ B * B := Nat.mul_le_mul (by omega) (by omega)
  have e3 : B * B ≤ (rh + y1) * B := Nat.mul_le_mul_right _ hb
  rw [hY, Nat.mul_add, ← Nat.mul_assoc, ← e1, Nat.add_mul (q1 * y1)]
  omega
theorem Dig.lt (hu : u < Y) (hu1 : u1 < B) : (u * B + u1) / Y < B := by
  refine Nat.div_lt_of_lt_mul ?_
  have : (u + 1) * B ≤ Y * B := Nat.mul_le_mul_right _ hu
  rw [Nat.add_mul] at this
  omega
/-- what is left, modulo the word -/
theorem left_wrap {q : Nat} (hq : q = (u * B + u1) / Y) (hY : Y < W) (h0 : 0 < Y) : (u * B + u1 + W * (q * Y / W + 1) - q * Y) % W = (u * B + u1) % Y ∧ q * Y + (u * B + u1) % Y = u * B + u1 := by
  have e := Nat.div_add_mod (u * B + u1) Y
  rw [← hq, Nat.mul_comm] at e
  have l := Nat.mod_lt (u * B + u1) h0
  refine ⟨?_, e⟩
  generalize (u * B + u1) % Y = r at *
  rw [← e]
  have : q * Y + r + W * (q * Y / W + 1) - q * Y = r + W * (q * Y / W + 1) := by omega
  rw [this, Nat.add_mul_mod_self_left, Nat.mod_eq_of_lt (by omega)]
end
/-- both digits together -/
theorem two_digits {Y u32 u1 u0 q1 q0 r1 r0 : Nat} (h0 : 0 < Y) (e1 : q1 * Y + r1 = u32 * B + u1) (e0 : q0 * Y + r0 = r1 * B + u0) (hr : r0 < Y) :
    (u32 * W + (u1 * B + u0)) / Y = q1 * B + q0 ∧ (u32 * W + (u1 * B + u0)) % Y = r0 := by
  have e : u32 * W + (u1 * B + u0) = r0 + Y * (q1 * B + q0) := by
    have h1 : (q1 * Y + r1) * B = (u32 * B + u1) * B := by rw [e1]
    rw [Nat.add_mul, Nat.add_mul] at h1
    rw [W_BB, ← Nat.mul_assoc, Nat.mul_add, Nat.mul_comm Y q0, ← Nat.mul_assoc, Nat.mul_comm Y q1]
    omega
  rw [e, Nat.add_mul_div_left _ _ h0, Nat.add_mul_mod_self_left, Nat.div_eq_of_lt hr, Nat.mod_eq_of_lt hr]
  exact ⟨by omega, rfl⟩
theorem unshift {N y s : Nat} (h0 : 0 < y) : N * 2 ^ s / (y * 2 ^ s) = N / y ∧ N * 2 ^ s % (y * 2 ^ s) / 2 ^ s = N % y := by
  have hp : 0 < 2 ^ s := Nat.pow_pos (by omega)
  refine ⟨Nat.mul_div_mul_right _ _ hp, ?_⟩
  rw [Nat.mul_mod_mul_right, Nat.mul_div_cancel _ hp]
end Go.Proofs.YtjglonmnjcnhbaaDoor
