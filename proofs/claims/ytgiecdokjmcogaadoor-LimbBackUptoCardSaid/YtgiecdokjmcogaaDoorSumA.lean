/-
  The reference of layer 1: surdref01.from, Add, Sub, MulAdd, DivOne; surdlaw01.copied.
-/
import Derived.Test.YtgiecdokjmcogaaDoorFixed
namespace Go.Proofs.YtgiecdokjmcogaaDoor
open Go.RowKit
set_option linter.unusedVariables false

theorem Own.lit0 {k : IntKind} {t : TypeId} {B : Nat} (w : World) (hB : B ≤ w.heap.size) : Own k t B (w.alloc (.cells #[] t)) (some ⟨w.heap.size, 0, none⟩) 0 0 [] :=
  Own.lit (k := k) (t := t) w [] (by simp [maxLen]) hB

set_option maxHeartbeats 400000 in
theorem copied_any {A : Option Addr} {n c : Nat} {xs : List Nat} {w : World} (h : Rd .u64 w A n c xs) (hn : n ≤ 1099511627776) :
    Calls Tryd.prog 8 #[.slice A n c] w (Gives .u64 22 w xs) := by
  have H := Lib.hid h
  have HE := Lib.hid elW
  clear h
  go_enter Tryd.func8, Tryd.ntmps8
  go_wp2_with (at_builtin; (refine wpList_app rfl (.tmp 3) (.tmp 4) rfl HE.out (t := 22) (k := .u64) (B := w.heap.size) (xs := []) (ys := xs) rfl rfl (Own.lit0 w (Nat.le_refl _)) (H.out.alloc _) (by omega) (by simp) ?_); intro B1 e1 w1 ho1 hb1 _ _)
  go_ret
  rw [Nat.zero_add] at ho1
  exact ⟨_, _, _, rfl, ho1, (belowA _ _).trans hb1⟩

end Go.Proofs.YtgiecdokjmcogaaDoor
