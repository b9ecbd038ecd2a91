/-
  LimbWords: AddW, SubW, MulW, DivW of any words are the document's.
-/
import Derived.Test.YtgiecdokjmcogaaFixed
namespace Go.Proofs.Ytgiecdokjmcogaa
open Go.RowKit
set_option linter.unusedVariables false

set_option maxHeartbeats 4000000 in
set_option maxRecDepth 100000 in
theorem limbWords_any {x y z c : Nat} {A B n : Value} {w : World} (hx : x < W) (hy : y < W) (hz : z < W) (hc : c < W) :
    Calls Try.prog 8 #[.agg #[.int .u64 (x : Int), .int .u64 (y : Int), .int .u64 (z : Int), .int .u64 (c : Int), A, B, n]] w (Keeps (.bool true) w) := by
  have HX := Lib.hid hx
  have HY := Lib.hid hy
  have HZ := Lib.hid hz
  have HC := Lib.hid hc
  clear hx hy hz hc
  go_enter Try.func8, Try.ntmps8
  go_wp2_with fail
  refine (fixed_any _).mono ?_
  rintro e w1 ⟨rfl, hb1⟩
  have e10 := ((At.box (i := 0) _ _ rfl).below hb1).1
  have e11 := ((At.box (i := 1) _ _ rfl).below hb1).1
  have e13 := ((At.box (i := 3) _ _ rfl).below hb1).1
  go_wp2_with fail
  refine (addW_any x y c _ HX.out HY.out HC.out rfl rfl rfl).mono ?_
  rintro e w' ⟨rfl, rfl⟩
  go_wp2_with fail
  refine (addW1_any HX.out HY.out HC.out).mono ?_
  rintro e w3 ⟨rfl, hb3⟩
  clear e10 e11 e13
  have e10 := (((At.box (i := 0) _ _ rfl).below hb1).below hb3).1
  have e11 := (((At.box (i := 1) _ _ rfl).below hb1).below hb3).1
  have e13 := (((At.box (i := 3) _ _ rfl).below hb1).below hb3).1
  go_wp2_with fail
  refine (subW_any x y c _ HX.out HY.out HC.out rfl rfl rfl).mono ?_
  rintro e w' ⟨rfl, rfl⟩
  go_wp2_with fail
  refine (subW1_any HX.out HY.out HC.out).mono ?_
  rintro e w5 ⟨rfl, hb5⟩
  clear e10 e11 e13
  have e10 := ((((At.box (i := 0) _ _ rfl).below hb1).below hb3).below hb5).1
  have e11 := ((((At.box (i := 1) _ _ rfl).below hb1).below hb3).below hb5).1
  have e12 := ((((At.box (i := 2) _ _ rfl).below hb1).below hb3).below hb5).1
  have e13 := ((((At.box (i := 3) _ _ rfl).below hb1).below hb3).below hb5).1
  go_wp2_with fail
  refine (mulW_any x y z c _ HX.out HY.out HZ.out HC.out rfl rfl rfl rfl).mono ?_
  rintro e w' ⟨rfl, rfl⟩
  go_wp2_with fail
  refine (mulW1_any HX.out HY.out HZ.out HC.out).mono ?_
  rintro e w7 ⟨rfl, hb7⟩
  clear e10 e11 e12 e13
  have e10 := (((((At.box (i := 0) _ _ rfl).below hb1).below hb3).below hb5).below hb7).1
  have e11 := (((((At.box (i := 1) _ _ rfl).below hb1).below hb3).below hb5).below hb7).1
  have e12 := (((((At.box (i := 2) _ _ rfl).below hb1).below hb3).below hb5).below hb7).1
  by_cases h0 : z = 0
  · subst h0
    go_wp2_with fail
    refine (divW_zero).mono ?_
    rintro e w8 ⟨rfl, hb8⟩
    have e20 := ((((((At.box (i := 0) _ _ rfl).below hb1).below hb3).below hb5).below hb7).below hb8).1
    have e21 := ((((((At.box (i := 1) _ _ rfl).below hb1).below hb3).below hb5).below hb7).below hb8).1
    have e22 := ((((((At.box (i := 2) _ _ rfl).below hb1).below hb3).below hb5).below hb7).below hb8).1
    go_wp2_with fail
    refine (divW1_zero).mono ?_
    rintro e w9 ⟨rfl, hb9⟩
    go_wp2
    go_ret
    exact ⟨rfl, (bt (bt (bt (bt (bt (bt ((Below.refl _ _).alloc (Nat.le_refl _) _) hb1) hb3) hb5) hb7) hb8) hb9)⟩
  · by_cases h1 : z ≤ x
    · skip
      go_wp2_with fail
      refine (divW_arg (by omega) h1).mono ?_
      rintro e w10 ⟨rfl, hb10⟩
      have e20 := ((((((At.box (i := 0) _ _ rfl).below hb1).below hb3).below hb5).below hb7).below hb10).1
      have e21 := ((((((At.box (i := 1) _ _ rfl).below hb1).below hb3).below hb5).below hb7).below hb10).1
      have e22 := ((((((At.box (i := 2) _ _ rfl).below hb1).below hb3).below hb5).below hb7).below hb10).1
      go_wp2_with fail
      refine (divW1_arg (by omega) h1).mono ?_
      rintro e w11 ⟨rfl, hb11⟩
      go_wp2
      go_ret
      exact ⟨rfl, (bt (bt (bt (bt (bt (bt ((Below.refl _ _).alloc (Nat.le_refl _) _) hb1) hb3) hb5) hb7) hb10) hb11)⟩
    · have C1 := Lib.hid fun w => divW_any (w := w) HY.out (Nat.lt_of_not_le h1) HZ.out
      have C2 := Lib.hid fun w => divW1_any (w := w) HY.out (Nat.lt_of_not_le h1) HZ.out
      generalize (x * W + y) / z = q at C1 C2
      generalize (x * W + y) % z = r at C1 C2
      go_wp2_with fail
      refine (C1.out _).mono ?_
      rintro e w12 ⟨rfl, hb12⟩
      have e20 := ((((((At.box (i := 0) _ _ rfl).below hb1).below hb3).below hb5).below hb7).below hb12).1
      have e21 := ((((((At.box (i := 1) _ _ rfl).below hb1).below hb3).below hb5).below hb7).below hb12).1
      have e22 := ((((((At.box (i := 2) _ _ rfl).below hb1).below hb3).below hb5).below hb7).below hb12).1
      go_wp2_with fail
      refine (C2.out _).mono ?_
      rintro e w13 ⟨rfl, hb13⟩
      go_wp2
      go_ret
      exact ⟨rfl, (bt (bt (bt (bt (bt (bt ((Below.refl _ _).alloc (Nat.le_refl _) _) hb1) hb3) hb5) hb7) hb12) hb13)⟩
end Go.Proofs.Ytgiecdokjmcogaa
