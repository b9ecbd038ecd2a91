/-
  The reference of layer 1: surdref01.from, Add, Sub, MulAdd, DivOne; surdlaw01.copied. The reference of layer 1: surdref01.Add, Sub, MulAdd, DivOne. surdref01.MulSub. LimbSums: Add, Sub, MulAdd, MulSub, DivOne of any lists and words are the document's.
-/
import Derived.Test.YtamfhmmcnlollaaGreatFixed
import Derived.Test.YtamfhmmcnlollaaGreatMsub
namespace Go.Proofs.YtamfhmmcnlollaaGreat
open Go.RowKit
set_option linter.unusedVariables false

theorem Own.lit0 {k : IntKind} {t : TypeId} {B : Nat} (w : World) (hB : B ≤ w.heap.size) : Own k t B (w.alloc (.cells #[] t)) (some ⟨w.heap.size, 0, none⟩) 0 0 [] :=
  Own.lit (k := k) (t := t) w [] (by simp [maxLen]) hB

end Go.Proofs.YtamfhmmcnlollaaGreat
namespace Go.Proofs.YtamfhmmcnlollaaGreat
open Go.RowKit
set_option linter.unusedVariables false
theorem Rd.vlt {w : World} {A : Option Addr} {n c : Nat} {xs : List Nat} (h : Rd .u64 w A n c xs) (hx : All W xs) : val W xs < W ^ n := by
  have := val_lt hx
  rwa [h.len] at this
end Go.Proofs.YtamfhmmcnlollaaGreat
namespace Go.Proofs.YtamfhmmcnlollaaGreat
open Go.RowKit
set_option linter.unusedVariables false
theorem Dgs.nil {w : World} : Dgs w (.slice none 0 0) 0 0 := ⟨none, 0, 0, [], rfl, Rd.nil, All.nil, rfl, Nat.le_refl _⟩

end Go.Proofs.YtamfhmmcnlollaaGreat
namespace Go.Proofs.YtamfhmmcnlollaaGreat
open Go.RowKit
set_option linter.unusedVariables false

theorem At.grow {w : World} {p : Addr} {v : Value} (h : At w p v) : ∀ w', Grow none w.drew w' → w'.cell? p = some v := fun w' g => g.cell (p := p) (v := v) h.1 (by simp)
theorem At.grow0 {w : World} {p : Addr} {v : Value} (h : At w p v) : ∀ w', Grow none w w' → w'.cell? p = some v := fun w' g => g.cell (p := p) (v := v) h.1 (by simp)

end Go.Proofs.YtamfhmmcnlollaaGreat
