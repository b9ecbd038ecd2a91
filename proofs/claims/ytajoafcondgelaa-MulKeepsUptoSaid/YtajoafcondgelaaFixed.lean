/-
  limb.Bits; surdref01.Same; surdlaw01.fixed.
-/
import Derived.Test.YtajoafcondgelaaRef1E
import Derived.Test.YtajoafcondgelaaBitsB
import Derived.Test.YtajoafcondgelaaDivOne
namespace Go.Proofs.Ytajoafcondgelaa
open Go.RowKit
set_option linter.unusedVariables false
/-- the bits of a number in words -/
def nbits (xs : List Nat) : Nat := if (strip xs).length = 0 then 0 else ((strip xs).length - 1) * 64 + blen (nth xs ((strip xs).length - 1))
theorem fixAddW {w : World} : Calls Try.prog 53 #[.int .u64 18446744073709551615, .int .u64 1, .int .u64 0] w fun e w' => e = .returned (.tuple #[.int .u64 0, .int .u64 1]) ∧ w = w' :=
  addW_any 18446744073709551615 1 0 w (by decide) (by decide) (by decide) rfl rfl rfl
theorem rd2 {w : World} {x y : Nat} : Rd .u64 (w.alloc (.cells #[.int .u64 (x : Int), .int .u64 (y : Int)] 30)) (some ⟨w.heap.size, 0, none⟩) 2 2 [x, y] :=
  (Own.lit (k := .u64) (t := 30) (B := 0) w [x, y] (by simp [maxLen]) (Nat.zero_le _)).rd
theorem belowA (w : World) (o : Obj) : Below w.heap.size w (w.alloc o) := (Below.refl _ _).alloc (Nat.le_refl _) o
theorem fixAdd {w : World} {b : Nat} (hb0 : b = (w.alloc (.cells #[.int .u64 18446744073709551615, .int .u64 0] 30)).heap.size) : Calls Try.prog 48 #[.slice (some ⟨w.heap.size, 0, none⟩) 2 2, .slice (some ⟨b, 0, none⟩) 1 1]
    ((w.alloc (.cells #[.int .u64 18446744073709551615, .int .u64 0] 30)).alloc (.cells #[.int .u64 1] 30)) (Gives2 .u64 30 w [0, 1] (.int .u64 0)) := by
  subst hb0
  have h1 : Rd .u64 (w.alloc (.cells #[.int .u64 18446744073709551615, .int .u64 0] 30)) (some ⟨w.heap.size, 0, none⟩) 2 2 [18446744073709551615, 0] := rd2
  have h2 : Rd .u64 ((w.alloc (.cells #[.int .u64 18446744073709551615, .int .u64 0] 30)).alloc (.cells #[.int .u64 1] 30)) (some ⟨(w.alloc (.cells #[.int .u64 18446744073709551615, .int .u64 0] 30)).heap.size, 0, none⟩) 1 1 [1] := Rd.lit1 _ 1
  have e1 : wds W (max 2 1) (val W [18446744073709551615, 0] + val W [1]) = [0, 1] := by decide
  have e2 : (val W [18446744073709551615, 0] + val W [1]) / W ^ (max 2 1) = 0 := by decide
  refine (ladd_any _ _ _ _ _ _ _ _ _ (h1.alloc _) h2 ?_ ?_ (by omega) (by omega)).mono ?_
  · exact All.cons (by decide) (All.cons (by decide) All.nil)
  · exact All.cons (by decide) All.nil
  · rintro e w' ⟨A, n, c, rfl, o, hb⟩
    rw [e1] at o
    rw [e2]
    exact ⟨A, n, c, rfl, o.mono (by simp; omega), bt (bt (belowA _ _) (belowA _ _)) hb⟩
theorem fixDiv {w : World} : Calls Try.prog 42 #[.slice (some ⟨w.heap.size, 0, none⟩) 2 2, .int .u64 2]
    (w.alloc (.cells #[.int .u64 0, .int .u64 1] 30)) (Gives3 .u64 30 w [9223372036854775808, 0] (.int .u64 0) (.int .i64 0)) := by
  have h1 : Rd .u64 (w.alloc (.cells #[.int .u64 0, .int .u64 1] 30)) (some ⟨w.heap.size, 0, none⟩) 2 2 [0, 1] := rd2
  have e1 : wds W 2 (val W [0, 1] / 2) = [9223372036854775808, 0] := by decide
  have e2 : val W [0, 1] % 2 = 0 := by decide
  refine (divOne_any (y := 2) (y' := 2) h1 ?_ rfl (by omega) (by decide) (by omega)).mono ?_
  · exact All.cons (by decide) (All.cons (by decide) All.nil)
  · rintro e w' ⟨A, n, c, rfl, o, hb⟩
    rw [e1] at o
    rw [e2]
    exact ⟨A, n, c, rfl, o.mono (by simp), bt (belowA _ _) hb⟩
end Go.Proofs.Ytajoafcondgelaa
