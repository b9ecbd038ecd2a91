/-
  How many bits a word has; math/bits.Len64, LeadingZeros64.
-/
import Derived.Test.YtamfhmmcnlollaaGreatNum
import Derived.Test.YtamfhmmcnlollaaGreatBits
namespace Go.Proofs.YtamfhmmcnlollaaGreat
open Go.RowKit
set_option linter.unusedVariables false

/-- how many bits -/
def blen (x : Nat) : Nat := Lib.bitLen x
theorem blen_spec : ∀ (n x : Nat), x < 2 ^ n → n ≤ 64 → 0 < x → 2 ^ (blen x - 1) ≤ x ∧ x < 2 ^ blen x ∧ 0 < blen x
  | 0, x, h, _, h0 => by omega
  | n + 1, x, h, hn, h0 => by
    have hx : x < 2 ^ 64 := Nat.lt_of_lt_of_le h (Nat.pow_le_pow_right (by omega) hn)
    have e : blen x = 1 + blen (x / 2) := Lib.bitLen_half x (by omega) hx
    by_cases h1 : x / 2 = 0
    · have : x = 1 := by omega
      subst this
      decide
    · have ih := blen_spec n (x / 2) (by rw [Nat.pow_succ] at h; omega) (by omega) (by omega)
      rw [e]
      obtain ⟨m, hm⟩ : ∃ m, blen (x / 2) = m + 1 := ⟨blen (x / 2) - 1, by omega⟩
      rw [hm] at ih ⊢
      simp only [Nat.add_sub_cancel, Nat.add_sub_cancel_left] at ih ⊢
      rw [show 1 + (m + 1) = (m + 1) + 1 by omega, Nat.pow_succ (n := 2) (m := m + 1), Nat.pow_succ]
      rw [Nat.pow_succ] at ih
      omega
theorem blen_lt {x : Nat} (h : x < W) : x < 2 ^ blen x := by
  by_cases h0 : x = 0
  · subst h0; decide
  · exact (blen_spec 64 x h (Nat.le_refl _) (by omega)).2.1
theorem blen_ge {x : Nat} (h : x < W) (h0 : 0 < x) : 2 ^ (blen x - 1) ≤ x ∧ 0 < blen x := by
  have := blen_spec 64 x h (Nat.le_refl _) h0
  exact ⟨this.1, this.2.2⟩
theorem blen_le {x : Nat} (h : x < W) : blen x ≤ 64 := Lib.bitLen_le x 64 (by omega) h
theorem len64_any {x : Nat} {x' : Int} {w : World} (hx' : x' = (x : Int)) (hx : x < W) :
    Calls Tryz.prog 166 #[.int .u64 x'] w fun e w' => e = .returned (.int .i64 ((blen x : Nat) : Int)) ∧ w = w' := by
  subst hx'
  rw [W_eq] at hx
  exact (bits_Len64 (x : Int) w (by omega) (by omega)).mono fun e w' ⟨h1, h2⟩ => ⟨by rw [h1, Int.toNat_natCast]; rfl, h2.symm⟩
theorem lead64_any {x : Nat} {x' : Int} {w : World} (hx' : x' = (x : Int)) (hx : x < W) :
    Calls Tryz.prog 168 #[.int .u64 x'] w fun e w' => e = .returned (.int .i64 ((64 - blen x : Nat) : Int)) ∧ w = w' := by
  subst hx'
  have hl := blen_le hx
  rw [W_eq] at hx
  refine (bits_LeadingZeros64 (x : Int) w (by omega) (by omega)).mono fun e w' ⟨h1, h2⟩ => ⟨?_, h2.symm⟩
  rw [h1, Int.toNat_natCast]
  unfold blen at *
  congr 2
  omega
end Go.Proofs.YtamfhmmcnlollaaGreat
