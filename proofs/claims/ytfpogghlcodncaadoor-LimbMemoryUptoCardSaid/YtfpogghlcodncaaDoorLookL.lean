/-
  LimbLooks: Trim, Cmp, Bits, Bit and Zeros of any lists are the document's.
-/
import Derived.Test.YtfpogghlcodncaaDoorDigQ
namespace Go.Proofs.YtfpogghlcodncaaDoor
open Go.RowKit
set_option linter.unusedVariables false

theorem lbits_nb {A : Option Addr} {n c : Nat} {xs : List Nat} {w : World} (h : Rd .u64 w A n c xs) (hx : All W xs) (hn : n ≤ 17179869184) :
    Calls Tryd.prog 14 #[.slice A n c] w (fun e w' => e = .returned (.int .i64 ((nb (val W xs) : Nat) : Int)) ∧ w = w') := by
  rw [← nbits_val hx]
  exact lbits_any h hx hn
end Go.Proofs.YtfpogghlcodncaaDoor
