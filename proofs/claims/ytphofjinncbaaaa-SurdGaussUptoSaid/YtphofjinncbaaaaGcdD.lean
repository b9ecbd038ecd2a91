/-
  Walks: gcd.All; surdtop.bezout.
-/
import Derived.Test.YtphofjinncbaaaaGcd
import Derived.Test.YtphofjinncbaaaaPowX
import Derived.Test.YtphofjinncbaaaaTopA
namespace Go.Proofs.Ytphofjinncbaaaa
open Go.RowKit
set_option linter.unusedVariables false

theorem At.boxb {i : Nat} {v : Value} {t : TypeId} {b : Nat} (w : World) (vs : Array Value) (h : vs[i]? = some v) (hb : b = w.heap.size) : At (w.alloc (.cells vs t)) ⟨b, i, none⟩ v := by
  subst hb; exact At.box w vs h
/-- the common divisor of all -/
def gall (xs : List Nat) : Nat := xs.foldl Nat.gcd 0
theorem gall_take {xs : List Nat} {k : Nat} (h : k < xs.length) : gall (xs.take (k + 1)) = Nat.gcd (gall (xs.take k)) (nth xs k) := by
  rw [List.take_succ_eq_append_getElem h, gall, List.foldl_append, nth_lt h]; rfl
theorem Num.empty {t : TypeId} {b : Nat} (w : World) (hb : b = w.heap.size) : Num (w.alloc (.cells #[] t)) (.slice (some ⟨b, 0, none⟩) 0 0) 0 0 := ⟨_, _, _, [], rfl, Rd.nil, All.nil, rfl, Nat.le_refl _⟩
end Go.Proofs.Ytphofjinncbaaaa
