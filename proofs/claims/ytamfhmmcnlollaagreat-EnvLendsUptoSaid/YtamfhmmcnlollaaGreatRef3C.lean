/-
  The reference of layer 3: Same (three of one text), Norm, times, plus, Mul, Of, MulAdd.
-/
import Derived.Test.YtamfhmmcnlollaaGreatRef3X
namespace Go.Proofs.YtamfhmmcnlollaaGreat
open Go.RowKit
set_option linter.unusedVariables false

theorem eq_of_nth {xs ys : List Nat} (hl : xs.length = ys.length) (h : ∀ i, i < xs.length → nth xs i = nth ys i) : xs = ys := by
  refine List.ext_getElem hl fun i h1 h2 => ?_
  have := h i h1
  rwa [nth_lt h1, nth_lt h2] at this
/-- it answers v, and only draws -/
def Quiet (v : Value) (w : World) (e : Ending) (w' : World) : Prop := e = .returned v ∧ ∃ n, w' = w.drewN n
theorem below_drewN (w : World) (n : Nat) : Below w.heap.size w (w.drewN n) := ⟨rfl, rfl, rfl, Nat.le_refl _, fun _ _ => rfl⟩

/-- it answers v, and leaves what there was -/
def Keeps (v : Value) (w : World) (e : Ending) (w' : World) : Prop := e = .returned v ∧ Below w.heap.size w w'
end Go.Proofs.YtamfhmmcnlollaaGreat
