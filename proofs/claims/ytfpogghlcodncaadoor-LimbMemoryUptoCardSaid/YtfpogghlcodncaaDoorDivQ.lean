/-
  Walks: nat.Of; div.Word, Quo, Mod, Exact, Divides, MulMod. Walks: div.Mod, Exact, Divides, MulMod, PowMod.
-/
import Derived.Test.YtfpogghlcodncaaDoorDivC
import Derived.Test.YtfpogghlcodncaaDoorMulX
import Derived.Test.YtfpogghlcodncaaDoorRef3C
namespace Go.Proofs.YtfpogghlcodncaaDoor
open Go.RowKit
set_option linter.unusedVariables false
/-- a number, a word, an error's number -/
def GNW (w : World) (x L r : Nat) (er : Int) (e : Ending) (w' : World) : Prop :=
  ∃ A n c, e = .returned (.tuple #[.slice A n c, .int .u64 (r : Int), .int .i64 er]) ∧ Own .u64 22 w.heap.size w' A n c (dg W x) ∧ Below w.heap.size w w' ∧ n ≤ L
theorem dg_one {y : Nat} (h : (dg W y).length = 1) : nth (dg W y) 0 = y ∧ y < W := by
  have e := dg_val W_gt y
  have a := dg_all W_gt y
  match hd : dg W y, h with
  | [z], _ =>
    rw [hd] at e a
    simp [val] at e
    subst e
    exact ⟨by simp [nth], a.head⟩
end Go.Proofs.YtfpogghlcodncaaDoor
namespace Go.Proofs.YtfpogghlcodncaaDoor
open Go.RowKit
set_option linter.unusedVariables false
theorem len_zero {n : Nat} {k : IntKind} {t : TypeId} {B c : Nat} {w : World} {A : Option Addr} {x : Nat} (h : Own k t B w A n c (dg W x)) (hx : x = 0) : n = 0 := by
  have := h.len
  rw [hx, dg_zero W_gt] at this
  exact this.symm
theorem len_pos {n : Nat} {k : IntKind} {t : TypeId} {B c : Nat} {w : World} {A : Option Addr} {x : Nat} (h : Own k t B w A n c (dg W x)) (hx : 0 < x) : 0 < n := by
  have h1 := h.len
  rcases Nat.eq_zero_or_pos n with h0 | h0
  · rw [h0] at h1
    have := (dg_nil_iff W_gt).1 (List.eq_nil_of_length_eq_zero h1)
    omega
  · exact h0
end Go.Proofs.YtfpogghlcodncaaDoor
