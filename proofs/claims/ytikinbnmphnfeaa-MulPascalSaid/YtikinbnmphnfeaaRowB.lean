/-
  Walks: surdref03.small, Factorial, carried, Row.
-/
import Derived.Test.YtikinbnmphnfeaaRowA
import Derived.Test.YtikinbnmphnfeaaRef3D
namespace Go.Proofs.Ytikinbnmphnfeaa
open Go.RowKit
set_option linter.unusedVariables false
/-- the round of carried -/
def CarI (ds : List Nat) (N k c : Nat) (outs : List Nat) : Prop :=
  (k ≤ N ∧ c < 281474976710656 ∧ outs.length = N) ∧ All D (outs.take k) ∧ (∀ j, k ≤ j → nth outs j = nth ds j) ∧ val D (outs.take k) + D ^ k * c = val D (ds.take k)
theorem CarI.start (ds : List Nat) : CarI ds ds.length 0 0 ds := ⟨⟨Nat.zero_le _, by omega, rfl⟩, by simp [All], fun _ _ => rfl, by simp [val]⟩
theorem CarI.step {ds outs : List Nat} {N k c : Nat} (h : CarI ds N k c outs) (hd : All 4611686018427387904 ds) (hk : k < N) : CarI ds N (k + 1) ((c + nth ds k) / 65536) (outs.set k ((c + nth ds k) % 65536)) := by
  obtain ⟨⟨h1, h2, h3⟩, h4, h5, h6⟩ := h
  have bx := hd.nth (by omega) k
  refine ⟨⟨hk, by omega, by simpa using h3⟩, ?_, fun j hj => ?_, ?_⟩
  · rw [List.take_succ_eq_append_getElem (by simpa using (by omega : k < outs.length)), List.take_set_of_le (Nat.le_refl _)]
    refine h4.append (All.cons ?_ All.nil)
    simp
    exact Nat.mod_lt _ (by omega)
  · rw [nth, List.getElem?_set_ne (by omega)]
    exact h5 j (by omega)
  · have e : val D ((outs.set k ((c + nth ds k) % 65536)).take (k + 1)) = val D (outs.take k) + D ^ k * ((c + nth ds k) % 65536) := by
      rw [val_take_succ k (by simpa using (by omega : k < outs.length)), List.take_set_of_le (Nat.le_refl _), nth_lt (by simpa using (by omega : k < outs.length))]
      simp
    have e2 : D ^ (k + 1) * ((c + nth ds k) / 65536) + D ^ k * ((c + nth ds k) % 65536) = D ^ k * c + D ^ k * nth ds k := by
      rw [Nat.pow_succ, Nat.mul_assoc, ← Nat.mul_add, ← Nat.mul_add]
      congr 1
      exact Nat.div_add_mod _ _
    rw [e, val_take_succ' ds k]
    omega
/-- what carried gives -/
def GCar (t : TypeId) (B : Nat) (w : World) (n x : Nat) (e : Ending) (w' : World) : Prop :=
  ∃ A' n' c' es, e = .returned (.slice A' n' c') ∧ Own .i64 t B w' A' n' c' es ∧ All D es ∧ val D es = x ∧ Below B w w' ∧ n' ≤ n + 1
end Go.Proofs.Ytikinbnmphnfeaa
