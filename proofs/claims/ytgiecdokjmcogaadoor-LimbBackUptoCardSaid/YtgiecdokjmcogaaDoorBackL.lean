/-
  LimbBack: sums, products, shifts undone by the program's own calls.
-/
import Derived.Test.YtgiecdokjmcogaaDoorBackL1
import Derived.Test.YtgiecdokjmcogaaDoorBackL2
import Derived.Test.YtgiecdokjmcogaaDoorBackL3
import Derived.Test.YtgiecdokjmcogaaDoorBackL4
namespace Go.Proofs.YtgiecdokjmcogaaDoor
open Go.RowKit
set_option linter.unusedVariables false

theorem limbBack_start {x y z c n ca m cb : Nat} {N : Int} {A B : Option Addr} {xs ys : List Nat} {w : World} (ht : TZ w) (h : Rd .u64 w A n ca xs) (h' : Rd .u64 w B m cb ys) (ha : All W xs) (hb : All W ys) (hx : x < W) (hc : c < W) (hn : n ≤ 1048576) (hm : m ≤ 1048576) :
    Calls Tryd.prog 4 #[.agg #[.int .u64 (x : Int), .int .u64 (y : Int), .int .u64 (z : Int), .int .u64 (c : Int), .slice A n ca, .slice B m cb, .int .i64 N]] w (Keeps (.bool true) w) := by
  by_cases hcx : c < x
  · by_cases hX : val W xs = 0
    · exact limbBack_1 ht h h' ha hb hx hc hn hm (Lib.hid hcx) (Lib.hid hX)
    · exact limbBack_2 ht h h' ha hb hx hc hn hm (Lib.hid hcx) (Lib.hid hX)
  · by_cases hX : val W xs = 0
    · exact limbBack_3 ht h h' ha hb hx hc hn hm (Lib.hid hcx) (Lib.hid hX)
    · exact limbBack_4 ht h h' ha hb hx hc hn hm (Lib.hid hcx) (Lib.hid hX)
end Go.Proofs.YtgiecdokjmcogaaDoor
