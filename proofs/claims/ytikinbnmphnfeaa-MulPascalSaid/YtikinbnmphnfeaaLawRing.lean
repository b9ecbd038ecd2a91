/-
  MulRing: the laws of products, for all numbers.
-/
import Derived.Test.YtikinbnmphnfeaaRef3C
namespace Go.Proofs.Ytikinbnmphnfeaa
open Go.RowKit
set_option linter.unusedVariables false

theorem awake_sq : dg W (val W [18446744073709551615] * val W [18446744073709551615]) = [1, 18446744073709551614] := by
  have e : val W [18446744073709551615] * val W [18446744073709551615] = val W [1, 18446744073709551614] := by decide
  rw [e]
  exact (norm_dg W_gt (xs := [1, 18446744073709551614]) (by simp [All, W_eq]) (by simp [Norm, strip])).symm

set_option maxHeartbeats 400000 in
theorem awake3_any (w : World) : Calls Try.prog 13 #[] w (Keeps (.bool true) w) := by
  have HQ := Lib.hid awake_sq
  go_enter Try.func13, Try.ntmps13
  go_wp2_with fail
  refine (mul_any (((Num.lit (t := 29) _ [18446744073709551615] (by simp) (by simp [W_eq, All])).mono (L' := 1) (by simp)).below ((Below.refl _ _).alloc (Nat.le_refl _) _)) ((Num.lit (t := 29) _ [18446744073709551615] (by simp) (by simp [W_eq, All])).mono (L' := 1) (by simp)) (by decide) (by decide)).mono ?_
  rintro e w1 ⟨A_p, n_p, c_p, rfl, o_p, hb1, l_p⟩
  go_wp2_with fail
  rw [HQ.out] at o_p
  refine (same3_yes (o_p.rd.alloc _) (Rd.litn (k := .u64) (t := 29) _ [1, 18446744073709551614] rfl (by decide)) rfl (by simp at l_p; omega)).mono ?_
  rintro e w2 ⟨rfl, hb2⟩
  go_wp2
  go_ret
  exact ⟨rfl, (bt (bt (bt (bt ((Below.refl _ _).alloc (Nat.le_refl _) _) ((Below.refl _ _).alloc (Nat.le_refl _) _)) hb1) ((Below.refl _ _).alloc (Nat.le_refl _) _)) hb2)⟩

end Go.Proofs.Ytikinbnmphnfeaa
