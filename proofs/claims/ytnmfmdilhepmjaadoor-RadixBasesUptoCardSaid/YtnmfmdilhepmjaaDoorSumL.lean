/-
  LimbSums: Add, Sub, MulAdd, MulSub, DivOne of any lists and words are the document's.
-/
import Derived.Test.YtnmfmdilhepmjaaDoorMsubR
namespace Go.Proofs.YtnmfmdilhepmjaaDoor
open Go.RowKit
set_option linter.unusedVariables false

theorem At.grow {w : World} {p : Addr} {v : Value} (h : At w p v) : ∀ w', Grow none w.drew w' → w'.cell? p = some v := fun w' g => g.cell (p := p) (v := v) h.1 (by simp)

theorem same1_yes {A A2 : Option Addr} {n c m c2 : Nat} {xs ys : List Nat} {w : World} (h : Rd .u64 w A n c xs) (h' : Rd .u64 w A2 m c2 ys) (e : xs = ys) (hn : n ≤ 1099511627776) :
    Calls Tryd.prog 57 #[.slice A n c, .slice A2 m c2] w (Keeps (.bool true) w) :=
  (same1_any h h' hn).mono fun _ _ ⟨he, q, hq⟩ => ⟨by rw [he, e]; simp, by rw [hq]; exact below_drewN _ _⟩

end Go.Proofs.YtnmfmdilhepmjaaDoor
