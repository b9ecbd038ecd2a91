/-
  The reference of layer 1: surdref01.AddW, SubW, MulW, DivW.
-/
import Derived.Test.YtamfhmmcnlollaaGreatRef1D
namespace Go.Proofs.YtamfhmmcnlollaaGreat
open Go.RowKit
set_option linter.unusedVariables false

theorem D4 : D ^ 4 = 18446744073709551616 := rfl
/-- the digits of a list of words -/
theorem digits1_num {A : Option Addr} {n c : Nat} {xs : List Nat} {w : World} (h : Rd .u64 w A n c xs) (hx : All W xs) (hn : n ≤ 137438953472) :
    Calls Tryz.prog 138 #[.slice A n c] w (GG w (val W xs) (4 * n)) :=
  (digits1_any h hx hn).mono fun e w' ⟨B, m, c', e1, e2, e3⟩ => ⟨B, m, c', _, e1, e2, flat_all xs, val_flat hx, e3, by rw [← e2.len, flat_length, h.len]; exact Nat.le_refl _⟩
theorem own1 {B n c x : Nat} {t : TypeId} {w : World} {A : Option Addr} (h : Own .u64 t B w A n c (wds W 1 x)) (hx : x < W) :
    ∃ g, A = some ⟨g, 0, none⟩ ∧ n = 1 ∧ w.cell? ⟨g, 0, none⟩ = some (.int .u64 (x : Int)) := by
  have hn : n = 1 := by rw [← h.len, wds_length]
  subst hn
  obtain ⟨g, rfl, _, _⟩ := h.form (by omega)
  refine ⟨g, rfl, rfl, ?_⟩
  have := h.cell (i := 0) (by omega)
  rw [nth_wds (by omega), Nat.pow_zero, Nat.div_one, Nat.mod_eq_of_lt hx] at this
  exact this

end Go.Proofs.YtamfhmmcnlollaaGreat
