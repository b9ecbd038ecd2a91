/-
  RadixThere.
-/
import Derived.Test.YtajoafcondgelaaGreatDoorRadG
import Derived.Test.YtajoafcondgelaaGreatDoorRef5X
namespace Go.Proofs.YtajoafcondgelaaGreatDoor
open Go.RowKit
set_option linter.unusedVariables false

/-- reading a text: either a number with what it says, or the error -/
theorem NumP.cases {w : World} {s : ByteArray} {b : Nat} {e : Ending} {w' : World} (h : NumP w s b e w') :
    (okText s b ∧ ∃ A n c, e = .returned (.tuple #[.slice A n c, .int .i64 0]) ∧ Own .u64 28 w.heap.size w' A n c (dg W (val b (digs s))) ∧ Below w.heap.size w w' ∧ n ≤ s.size) ∨ (e = .returned (.tuple #[.slice none 0 0, .int .i64 5]) ∧ Below w.heap.size w w') := by
  rcases h with ⟨h1, A, n, c, h2⟩ | ⟨h1, h2, h3⟩
  · exact .inl ⟨h1, A, n, c, h2⟩
  · exact .inr ⟨h2, h3⟩
/-- reading what was written -/
theorem NumP.txt {w : World} {b x L : Nat} (hb : 2 ≤ b) (hb36 : b ≤ 36) (hx : x < W ^ L) {e : Ending} {w' : World} (h : NumP w (txt b x) b e w') :
    ∃ A n c, e = .returned (.tuple #[.slice A n c, .int .i64 0]) ∧ Own .u64 28 w.heap.size w' A n c (dg W x) ∧ Below w.heap.size w w' ∧ n ≤ L := by
  obtain ⟨h1, h2⟩ := txt_ok hb hb36 x
  rcases h with ⟨_, A, n, c, h3, h4, h5, _⟩ | ⟨h3, _⟩
  · rw [h2] at h4
    exact ⟨A, n, c, h3, h4, h5, by rw [← h4.len]; exact dg_len W_gt hx⟩
  · exact absurd h1 h3
theorem txt_len {b x L : Nat} (hb : 2 ≤ b) (hx : x < W ^ L) (hL : 1 ≤ L) : (txt b x).size ≤ 64 * L := by
  by_cases h0 : x = 0
  · subst h0
    rw [txt_zero]
    have : (⟨#[48]⟩ : ByteArray).size = 1 := rfl
    omega
  · rw [txt_size h0]; exact dg_len64 (by omega) hx
end Go.Proofs.YtajoafcondgelaaGreatDoor
