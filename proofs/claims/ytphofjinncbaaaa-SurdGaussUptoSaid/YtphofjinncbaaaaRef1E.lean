/-
  The reference of layer 1: surdref01.AddW, SubW, MulW, DivW.
-/
import Derived.Test.YtphofjinncbaaaaRef1D
namespace Go.Proofs.Ytphofjinncbaaaa
open Go.RowKit
set_option linter.unusedVariables false

theorem D4 : D ^ 4 = 18446744073709551616 := rfl
theorem D5 : D ^ 5 = 1208925819614629174706176 := rfl
theorem D8 : D ^ 8 = 340282366920938463463374607431768211456 := rfl
theorem D9 : D ^ 9 = 22300745198530623141535718272648361505980416 := rfl

/-- two words that a call answers in a new list -/
theorem own2 {B n c x : Nat} {t : TypeId} {w : World} {A : Option Addr} (h : Own .u64 t B w A n c (wds W 2 x)) (hx : x < W * W) :
    ∃ g, A = some ⟨g, 0, none⟩ ∧ n = 2 ∧ w.cell? ⟨g, 0, none⟩ = some (.int .u64 ((lo x : Nat) : Int)) ∧ w.cell? ⟨g, 1, none⟩ = some (.int .u64 ((hi x : Nat) : Int)) := by
  have hn : n = 2 := by rw [← h.len, wds_length]
  subst hn
  obtain ⟨g, rfl, _, _⟩ := h.form (by omega)
  refine ⟨g, rfl, rfl, ?_, ?_⟩
  · have := h.cell (i := 0) (by omega)
    rw [nth_wds (by omega)] at this
    simpa [lo] using this
  · have := h.cell (i := 1) (by omega)
    rw [nth_wds (by omega), Nat.pow_one, Nat.mod_eq_of_lt (Nat.div_lt_of_lt_mul hx)] at this
    exact this
theorem own1 {B n c x : Nat} {t : TypeId} {w : World} {A : Option Addr} (h : Own .u64 t B w A n c (wds W 1 x)) (hx : x < W) :
    ∃ g, A = some ⟨g, 0, none⟩ ∧ n = 1 ∧ w.cell? ⟨g, 0, none⟩ = some (.int .u64 (x : Int)) := by
  have hn : n = 1 := by rw [← h.len, wds_length]
  subst hn
  obtain ⟨g, rfl, _, _⟩ := h.form (by omega)
  refine ⟨g, rfl, rfl, ?_⟩
  have := h.cell (i := 0) (by omega)
  rw [nth_wds (by omega), Nat.pow_zero, Nat.div_one, Nat.mod_eq_of_lt hx] at this
  exact this

theorem sub_val {x j : Nat} : x + j * W + D ^ 4 = x + (j + 1) * W := by rw [D4, W_eq]; omega
theorem sub_next {x y c j : Nat} (h : x + j * W < y + c) : x + (j + 1) * W < y + c + W := by rw [Nat.succ_mul]; omega
theorem sub_two {x y c j : Nat} (hy : y < W) (hc : c < W) (h : x + j * W < y + c) : j < 2 := by rw [W_eq] at *; omega
theorem sub_lt {x j : Nat} (hx : x < W) (hj : j < 2) : x + j * W + D ^ 4 < D ^ 5 := by rw [D4, D5]; rw [W_eq] at *; omega
theorem borrows_uniq {x y c j : Nat} (hx : x < W) (hy : y < W) (hc : c < W) (hj : j ≤ 2) (h1 : y + c ≤ x + j * W) (h2 : j = 0 ∨ x + j * W < y + c + W) : borrows x y c = j ∧ subw x y c = x + j * W - (y + c) ∧ x + j * W - (y + c) < W := by
  have h := sub_words_eq x y c hx hy hc
  generalize borrows x y c = b at *
  generalize subw x y c = d at *
  rw [W_eq] at *
  omega
end Go.Proofs.Ytphofjinncbaaaa
