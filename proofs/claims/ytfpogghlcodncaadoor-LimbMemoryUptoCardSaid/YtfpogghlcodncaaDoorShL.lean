/-
  LimbShifts: Shl (by at most 70000, or out of range) and Shr of any list are the document's.
-/
import Derived.Test.YtfpogghlcodncaaDoorShD
namespace Go.Proofs.YtfpogghlcodncaaDoor
open Go.RowKit
set_option linter.unusedVariables false

theorem shl_both {xs : List Nat} {n : Nat} (z : Int) (hx : All W xs) (hn : n ≤ 4294967296) : ∃ (zs : List Nat) (u : Int), (zs.length ≤ n + 16385) ∧
    (∀ ⦃A : Option Addr⦄ ⦃c : Nat⦄ ⦃w : World⦄, Rd .u64 w A n c xs → Calls Tryd.prog 30 #[.slice A n c, .int .i64 z] w (Gives2 .u64 22 w zs (.int .i64 u))) ∧
    (∀ ⦃A : Option Addr⦄ ⦃c : Nat⦄ ⦃w : World⦄, Rd .u64 w A n c xs → Calls Tryd.prog 17 #[.slice A n c, .int .i64 z] w (Gives2 .u64 22 w zs (.int .i64 u))) := by
  by_cases h : z < 0 ∨ 1048576 < z
  · exact ⟨[], 3, by simp, fun _ _ _ _ => lshl_bad h, fun _ _ _ _ => rshl1_bad h⟩
  · obtain ⟨s, rfl⟩ : ∃ s : Nat, z = (s : Int) := ⟨z.toNat, by omega⟩
    refine ⟨_, _, ?_, fun _ _ _ h1 => lshl_any h1 hx rfl (by omega) (by omega), fun _ _ _ h1 => rshl1_any h1 hx rfl (by omega) hn⟩
    rw [wds_length, shlLen]
    split <;> omega
theorem shr_both {xs : List Nat} {n : Nat} {z : Int} (hz : z ≤ 9223372036854775807) (hx : All W xs) (hn : n ≤ 4294967296) : ∃ (zs : List Nat) (b : Bool) (u : Int), (zs.length ≤ n) ∧
    (∀ ⦃A : Option Addr⦄ ⦃c : Nat⦄ ⦃w : World⦄, Rd .u64 w A n c xs → Calls Tryd.prog 31 #[.slice A n c, .int .i64 z] w (Gives3 .u64 22 w zs (.bool b) (.int .i64 u))) ∧
    (∀ ⦃A : Option Addr⦄ ⦃c : Nat⦄ ⦃w : World⦄, Rd .u64 w A n c xs → Calls Tryd.prog 18 #[.slice A n c, .int .i64 z] w (Gives3 .u64 22 w zs (.bool b) (.int .i64 u))) := by
  by_cases h : z < 0
  · exact ⟨[], false, 3, by simp, fun _ _ _ _ => lshr_neg h, fun _ _ _ _ => rshr1_neg h⟩
  · obtain ⟨s, rfl⟩ : ∃ s : Nat, z = (s : Int) := ⟨z.toNat, by omega⟩
    refine ⟨_, _, _, ?_, fun _ _ _ h1 => ?_, fun _ _ _ h1 => rshr1_any h1 hx rfl (by omega) hn⟩
    · rw [wds_length]; omega
    · by_cases hs : s / 64 < n
      · exact lshr_in h1 hx rfl (by omega) hs
      · exact lshr_out h1 hx rfl (by omega) (by omega) (by omega)

end Go.Proofs.YtfpogghlcodncaaDoor
