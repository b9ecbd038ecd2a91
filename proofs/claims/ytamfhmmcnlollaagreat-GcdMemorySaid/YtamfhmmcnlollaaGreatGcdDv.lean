/-
  GcdDivisors: Gcd, All, Lcm, AllLcm and Coprime of any numbers are the document's.
-/
import Derived.Test.YtamfhmmcnlollaaGreatIntG
namespace Go.Proofs.YtamfhmmcnlollaaGreat
open Go.RowKit
set_option linter.unusedVariables false

theorem At.of {w : World} {p : Addr} {v : Value} (h : Cel w p v) : At w p v := ⟨h.1, h.2.2⟩
/-- the case in its box -/
def LawB (w0 : World) (vs : Array Value) (wr : World) : Prop := Below w0.heap.size w0 wr ∧ ∀ i v, vs[i]? = some v → Cel wr ⟨w0.heap.size, i, none⟩ v
theorem six {α : Type} {v0 v1 v2 v3 v4 v5 : α} {i : Nat} {v : α} (h : #[v0, v1, v2, v3, v4, v5][i]? = some v) : (i = 0 ∧ v = v0) ∨ (i = 1 ∧ v = v1) ∨ (i = 2 ∧ v = v2) ∨ (i = 3 ∧ v = v3) ∨ (i = 4 ∧ v = v4) ∨ (i = 5 ∧ v = v5) := by
  have hl : i < 6 := by have := (Array.getElem?_eq_some_iff.1 h).1; simpa using this
  rcases (show i = 0 ∨ i = 1 ∨ i = 2 ∨ i = 3 ∨ i = 4 ∨ i = 5 by omega) with rfl | rfl | rfl | rfl | rfl | rfl <;> simp at h <;> simp [h]
theorem LawB.set6 {w0 wr : World} {o0 o1 o2 o3 o4 o5 v0 v1 v2 v3 v4 v5 : Value} (h : LawB w0 #[o0, o1, o2, o3, o4, o5] wr) :
    LawB w0 #[v0, v1, v2, v3, v4, v5] ((((((wr.setCell ⟨w0.heap.size, 0, none⟩ v0).setCell ⟨w0.heap.size, 1, none⟩ v1).setCell ⟨w0.heap.size, 2, none⟩ v2).setCell ⟨w0.heap.size, 3, none⟩ v3).setCell ⟨w0.heap.size, 4, none⟩ v4).setCell ⟨w0.heap.size, 5, none⟩ v5) := by
  obtain ⟨h1, h2⟩ := h
  have p0 := h2 0 _ rfl
  have p1 := h2 1 _ rfl
  have p2 := h2 2 _ rfl
  have p3 := h2 3 _ rfl
  have p4 := h2 4 _ rfl
  have p5 := h2 5 _ rfl
  refine ⟨(((((h1.setCell (p := ⟨w0.heap.size, 0, none⟩) (by simp) _).setCell (p := ⟨w0.heap.size, 1, none⟩) (by simp) _).setCell (p := ⟨w0.heap.size, 2, none⟩) (by simp) _).setCell (p := ⟨w0.heap.size, 3, none⟩) (by simp) _).setCell (p := ⟨w0.heap.size, 4, none⟩) (by simp) _).setCell (p := ⟨w0.heap.size, 5, none⟩) (by simp) _, fun i v hv => ?_⟩
  rcases six hv with ⟨rfl, rfl⟩ | ⟨rfl, rfl⟩ | ⟨rfl, rfl⟩ | ⟨rfl, rfl⟩ | ⟨rfl, rfl⟩ | ⟨rfl, rfl⟩
  · exact (((((p0.put).set (by simp)).set (by simp)).set (by simp)).set (by simp)).set (by simp)
  · exact ((((p1.set (by simp)).put.set (by simp)).set (by simp)).set (by simp)).set (by simp)
  · exact ((((p2.set (by simp)).set (by simp)).put.set (by simp)).set (by simp)).set (by simp)
  · exact ((((p3.set (by simp)).set (by simp)).set (by simp)).put.set (by simp)).set (by simp)
  · exact ((((p4.set (by simp)).set (by simp)).set (by simp)).set (by simp)).put.set (by simp)
  · exact ((((p5.set (by simp)).set (by simp)).set (by simp)).set (by simp)).set (by simp) |>.put
theorem lsum_replicate (n k : Nat) : lsum (List.replicate n k) = k * n := by
  induction n with
  | zero => rfl
  | succ n ih => rw [List.replicate_succ, lsum, ih, Nat.mul_succ]; omega
theorem nth_replicate_le (n k i : Nat) : nth (List.replicate n k) i ≤ k := by
  by_cases h : i < n
  · rw [nth_replicate h]; exact Nat.le_refl _
  · rw [nth_ge (by simpa using h)]; omega
end Go.Proofs.YtamfhmmcnlollaaGreat
