/-
  Walks: limb.MulAdd, mul.Times.
-/
import Derived.Test.YtamfhmmcnlollaaGreatMulX
namespace Go.Proofs.YtamfhmmcnlollaaGreat
open Go.RowKit
set_option linter.unusedVariables false

/-- a cell that is there -/
def At (w : World) (p : Addr) (v : Value) : Prop := w.cell? p = some v ∧ p.block < w.heap.size
theorem At.below {w w' : World} {p : Addr} {v : Value} (h : At w p v) (hb : Below w.heap.size w w') : At w' p v := ⟨(hb.cell h.2).trans h.1, Nat.lt_of_lt_of_le h.2 hb.size⟩
theorem At.box {i : Nat} {v : Value} {t : TypeId} (w : World) (vs : Array Value) (h : vs[i]? = some v) : At (w.alloc (.cells vs t)) ⟨w.heap.size, i, none⟩ v := by
  refine ⟨?_, by simp⟩
  simp only [World.cell?, heap_alloc_new, h]
  rfl

def MadI (xs : List Nat) (n y c0 k cn : Nat) (outs : List Nat) : Prop :=
  k ≤ n ∧ cn < W ∧ All W outs ∧ outs.length = n ∧ val W (outs.take k) + W ^ k * cn = val W (xs.take k) * y + c0
theorem MadI.step {xs outs : List Nat} {n y c0 k cn : Nat} (h : MadI xs n y c0 k cn outs) (hx : All W xs) (hy : y < W) (hk : k < n) :
    MadI xs n y c0 (k + 1) (hi (nth xs k * y + cn + 0)) (outs.set k (lo (nth xs k * y + cn + 0))) := by
  obtain ⟨h1, h2, h3, h4, h5⟩ := h
  have e1 := lo_hi (nth xs k * y + cn + 0)
  have hh := (mul_words (nth xs k) y cn 0 (hx.nth W_pos k) hy h2 (by decide)).2.2
  refine ⟨hk, hh, h3.set (lo_lt _) k, by simpa using h4, ?_⟩
  rw [val_set_take (by omega), val_take_succ' xs k, Nat.pow_succ, Nat.add_mul]
  rw [Nat.add_zero] at *
  generalize lo (nth xs k * y + cn) = l at *
  generalize hi (nth xs k * y + cn) = g at *
  have e4 : W ^ k * l + W ^ k * W * g = W ^ k * (nth xs k * y) + W ^ k * cn := by
    rw [Nat.mul_assoc, ← Nat.mul_add, e1, Nat.mul_add]
  have e5 : W ^ k * nth xs k * y = W ^ k * (nth xs k * y) := Nat.mul_assoc _ _ _
  omega
theorem MadI.done {xs outs : List Nat} {n y c0 cn : Nat} (h : MadI xs n y c0 n cn outs) (hn : xs.length = n) : outs = wds W n (val W xs * y + c0) ∧ cn = (val W xs * y + c0) / W ^ n := by
  obtain ⟨h1, h2, h3, h4, h5⟩ := h
  rw [val_take_ge (by omega), val_take_ge (by omega)] at h5
  have l := val_lt h3
  rw [h4] at l
  refine ⟨eq_wds h3 h4 ?_, ?_⟩
  · rw [← h5, Nat.add_mul_mod_self_left, Nat.mod_eq_of_lt l]
  · rw [← h5, Nat.add_mul_div_left _ _ (Nat.pow_pos W_pos), Nat.div_eq_of_lt l, Nat.zero_add]

theorem mad_lt {x y z n : Nat} (hx : x < W ^ n) (hy : y < W) (hz : z < W) : x * y + z < W ^ n * W := by
  have h1 : x * y + y ≤ W ^ n * y := by rw [← Nat.succ_mul]; exact Nat.mul_le_mul_right _ hx
  by_cases h0 : y = 0
  · subst h0
    have : 1 * W ≤ W ^ n * W := Nat.mul_le_mul_right _ (Nat.pow_pos W_pos)
    omega
  · have h2 : W ^ n * y + W ^ n ≤ W ^ n * W := by rw [← Nat.mul_succ]; exact Nat.mul_le_mul_left _ hy
    by_cases hn : n = 0
    · subst hn
      have : x = 0 := by simpa using hx
      subst this
      simp
      omega
    · have h3 : W ≤ W ^ n := by
        have : W ^ 1 ≤ W ^ n := Nat.pow_le_pow_right W_pos (by omega)
        simpa using this
      omega

end Go.Proofs.YtamfhmmcnlollaaGreat
