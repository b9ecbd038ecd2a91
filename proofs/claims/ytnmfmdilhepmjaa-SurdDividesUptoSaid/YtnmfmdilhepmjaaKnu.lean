/-
  Algorithm D in numbers: the digit that the three and the two highest digits give is right or 1 too great. No program here.
-/
import Derived.Test.YtnmfmdilhepmjaaNum
namespace Go.Proofs.Ytnmfmdilhepmjaa
set_option linter.unusedVariables false

/-- the digit that is guessed -/
def gq (T V2 : Nat) : Nat := min (W - 1) (T / V2)

theorem gq_lt (T V2 : Nat) : gq T V2 < W := by unfold gq; have := W_pos; omega
theorem gq_of {T V2 q : Nat} (h0 : 0 < V2) (h : q * V2 ≤ T) (h' : T < (q + 1) * V2 ∨ q + 1 = W) (hq : q < W) : gq T V2 = q := by
  have h1 : q ≤ T / V2 := (Nat.le_div_iff_mul_le h0).2 h
  refine Nat.le_antisymm ?_ (Nat.le_min.2 ⟨Nat.le_sub_one_of_lt hq, h1⟩)
  rcases h' with h' | h'
  · exact Nat.le_trans (Nat.min_le_right _ _) (Nat.le_of_lt_succ ((Nat.div_lt_iff_lt_mul h0).2 h'))
  · exact Nat.le_trans (Nat.min_le_left _ _) (by omega)

/-- right, or 1 too great -/
theorem gq_near {U V T V2 B ul vl : Nat} (hU : U = T * B + ul) (hul : ul < B) (hV : V = V2 * B + vl) (hvl : vl < B) (hlt : U < V * W) (hn : W ≤ V2) :
    U / V ≤ gq T V2 ∧ gq T V2 ≤ U / V + 1 := by
  have hW := W_pos
  have hB : 0 < B := by omega
  have hV2 : 0 < V2 := by omega
  have hV0 : 0 < V := by
    have := Nat.mul_pos hV2 hB
    omega
  constructor
  · have h1 : U / V < W := (Nat.div_lt_iff_lt_mul hV0).2 (by rwa [Nat.mul_comm])
    have h2 : U / V ≤ T / V2 := by
      rw [Nat.le_div_iff_mul_le hV2]
      have h3 : U / V * V ≤ U := Nat.div_mul_le_self U V
      have h4 : U / V * V2 * B ≤ U / V * V := by
        rw [Nat.mul_assoc]
        exact Nat.mul_le_mul_left _ (by omega)
      have h5 : U / V * V2 * B < (T + 1) * B := by rw [Nat.add_mul]; omega
      have := Nat.lt_of_mul_lt_mul_right h5
      exact Nat.le_of_lt_succ this
    exact Nat.le_min.2 ⟨Nat.le_sub_one_of_lt h1, h2⟩
  · rcases Nat.eq_zero_or_pos (gq T V2) with h0 | h0
    · rw [h0]; exact Nat.zero_le _
    · have h1 : gq T V2 * V2 ≤ T := by
        refine Nat.le_trans (Nat.mul_le_mul_right _ (show gq T V2 ≤ T / V2 from Nat.min_le_right _ _)) (Nat.div_mul_le_self _ _)
      have h2 := gq_lt T V2
      generalize gq T V2 = g at *
      obtain ⟨p, rfl⟩ : ∃ p, g = p + 1 := ⟨g - 1, by omega⟩
      have h3 : p ≤ U / V := by
        rw [Nat.le_div_iff_mul_le hV0, hV, hU]
        have h4 : p * vl ≤ W * B := Nat.mul_le_mul (by omega) (by omega)
        have h5 : W * B ≤ V2 * B := Nat.mul_le_mul_right _ hn
        have h6 : (p + 1) * V2 * B ≤ T * B := Nat.mul_le_mul_right _ h1
        rw [Nat.add_mul, Nat.add_mul, Nat.one_mul] at h6
        rw [Nat.mul_add, ← Nat.mul_assoc]
        omega
      omega

/-- the second digit says that the digit isn't too great -/
theorem hi_lo {q v0 rest u0 : Nat} (hu : u0 < W) : (q * v0 / W < rest ∨ q * v0 / W = rest ∧ q * v0 % W ≤ u0) ↔ q * v0 ≤ rest * W + u0 := by
  have hW := W_pos
  have e := Nat.div_add_mod (q * v0) W
  have l := Nat.mod_lt (q * v0) hW
  generalize q * v0 = x at *
  generalize x / W = d at *
  generalize x % W = m at *
  constructor
  · rintro (h | ⟨rfl, h⟩)
    · have := Nat.mul_le_mul_left W (show d + 1 ≤ rest by omega)
      rw [Nat.mul_add, Nat.mul_comm W rest] at this
      omega
    · rw [Nat.mul_comm d W]; omega
  · intro h
    rcases Nat.lt_trichotomy d rest with h1 | h1 | h1
    · exact .inl h1
    · subst h1
      rw [Nat.mul_comm d W] at h
      exact .inr ⟨rfl, by omega⟩
    · exfalso
      have := Nat.mul_le_mul_left W (show rest + 1 ≤ d by omega)
      rw [Nat.mul_add, Nat.mul_comm W rest] at this
      omega

/-- what holds at each round of the correction: q v1 + rest = T -/
def CorI (T u0 v1 v0 q rest : Nat) : Prop := q * v1 + rest = T ∧ gq (T * W + u0) (v1 * W + v0) ≤ q ∧ q < W
theorem cor_expand (q v1 v0 : Nat) : q * (v1 * W + v0) = q * v1 * W + q * v0 := by rw [Nat.mul_add, Nat.mul_assoc]
theorem CorI.stop {T u0 v1 v0 q rest : Nat} (h : CorI T u0 v1 v0 q rest) (hv : 0 < v1) (hs : q * v0 ≤ rest * W + u0) : gq (T * W + u0) (v1 * W + v0) = q := by
  obtain ⟨h1, h2, h3⟩ := h
  have hp : 0 < v1 * W + v0 := by have := Nat.mul_pos hv W_pos; omega
  have h4 : q ≤ (T * W + u0) / (v1 * W + v0) := by
    rw [Nat.le_div_iff_mul_le hp, cor_expand, ← h1, Nat.add_mul]
    omega
  exact Nat.le_antisymm h2 (Nat.le_min.2 ⟨Nat.le_sub_one_of_lt h3, h4⟩)
theorem CorI.step {T u0 v1 v0 q rest : Nat} (h : CorI T u0 v1 v0 q rest) (hv : 0 < v1) (hs : ¬ q * v0 ≤ rest * W + u0) : ∃ p, q = p + 1 ∧ CorI T u0 v1 v0 p (rest + v1) := by
  obtain ⟨h1, h2, h3⟩ := h
  have hp : 0 < v1 * W + v0 := by have := Nat.mul_pos hv W_pos; omega
  have h4 : (T * W + u0) / (v1 * W + v0) < q := by
    rw [Nat.div_lt_iff_lt_mul hp, cor_expand, ← h1, Nat.add_mul]
    omega
  have h5 : 0 < q := Nat.lt_of_le_of_lt (Nat.zero_le _) h4
  obtain ⟨p, rfl⟩ : ∃ p, q = p + 1 := ⟨q - 1, by omega⟩
  exact ⟨p, rfl, by rw [Nat.add_mul] at h1; omega, Nat.le_trans (Nat.min_le_right _ _) (Nat.le_of_lt_succ h4), by omega⟩
theorem CorI.over {T u0 v1 v0 q rest : Nat} (h : CorI T u0 v1 v0 q rest) (hv : 0 < v1) (hv0 : v0 < W) (ho : W ≤ rest) : gq (T * W + u0) (v1 * W + v0) = q := by
  refine h.stop hv ?_
  have h3 := h.2.2
  have h4 : q * v0 ≤ W * W := Nat.mul_le_mul (by omega) (by omega)
  have h5 : W * W ≤ rest * W := Nat.mul_le_mul_right _ ho
  omega
theorem CorI.top {u2 u1 u0 v1 v0 : Nat} (h : u2 = v1) (hv : v1 < W) : CorI (u2 * W + u1) u0 v1 v0 (W - 1) (u1 + v1) := by
  subst h
  have hW := W_pos
  refine ⟨?_, Nat.min_le_left _ _, by omega⟩
  obtain ⟨k, hk⟩ : ∃ k, W = k + 1 := ⟨W - 1, by omega⟩
  rw [hk, Nat.mul_comm u2 (k + 1), Nat.add_mul]
  simp
  omega
theorem CorI.div {T u0 v1 v0 : Nat} (hv : 0 < v1) (hu : u0 < W) (h : T / v1 < W) : CorI T u0 v1 v0 (T / v1) (T % v1) := by
  have hp : 0 < v1 * W + v0 := by have := Nat.mul_pos hv W_pos; omega
  refine ⟨by rw [Nat.mul_comm]; exact Nat.div_add_mod T v1, ?_, h⟩
  have : (T * W + u0) / (v1 * W + v0) * v1 ≤ T := by
    have h1 := Nat.div_mul_le_self (T * W + u0) (v1 * W + v0)
    generalize (T * W + u0) / (v1 * W + v0) = d at *
    rw [cor_expand] at h1
    have h2 : d * v1 * W < (T + 1) * W := by rw [Nat.add_mul]; omega
    have := Nat.lt_of_mul_lt_mul_right h2
    omega
  have := (Nat.le_div_iff_mul_le hv).2 this
  exact Nat.le_trans (Nat.min_le_right _ _) this
end Go.Proofs.Ytnmfmdilhepmjaa
