/-
  LimbBack: what its four ways share.
-/
import Derived.Test.YtgiecdokjmcogaaDoorBackA
import Derived.Test.YtgiecdokjmcogaaDoorTopA
namespace Go.Proofs.YtgiecdokjmcogaaDoor
open Go.RowKit
set_option linter.unusedVariables false

theorem At.growB {w : World} {p : Addr} {v : Value} (h : At w p v) : ∀ w', KB w.heap.size w.drew w' → w'.cell? p = some v := fun w' g => (g.cell (p := p) h.2 h.2).trans h.1

def BackPost (w : World) (e : Ending) (w' : World) : Prop := Keeps (.bool true) w e w'

theorem tzn_le_nb {x : Nat} (h : 0 < x) : tzn x ≤ nb x := by
  obtain ⟨k, hk, _⟩ := Lib.ctzFrom_spec x x h (Nat.lt_two_pow_self)
  have e : tzn x = Lib.ctzFrom x x := by rw [tzn, if_neg (by omega)]
  rw [e]
  generalize Lib.ctzFrom x x = t at *
  have h1 : 2 ^ t ≤ x := by rw [hk]; exact Nat.le_mul_of_pos_right _ (by omega)
  exact Nat.le_of_lt ((Nat.pow_lt_pow_iff_right (show 1 < 2 by omega)).1 (Nat.lt_of_le_of_lt h1 (nb_lt x)))

end Go.Proofs.YtgiecdokjmcogaaDoor
