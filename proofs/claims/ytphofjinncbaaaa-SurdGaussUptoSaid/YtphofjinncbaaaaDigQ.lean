/-
  The reference of layer 1: surdref01.Trim, Cmp, Bits, Zeros, Bit. math/bits.TrailingZeros64 over its table; limb.Zeros, Bit; surdref01.Bit. Digits in a base, the lowest first; walks: div.Digits; nat.Bit, div.PowMod. Walks: nat.Bit, div.PowMod.
-/
import Derived.Test.YtphofjinncbaaaaSumX
import Derived.Test.YtphofjinncbaaaaNatB
import Derived.Lib.TrailingZeros
import Derived.Lib.LaidTab
import Derived.Test.YtphofjinncbaaaaGcd
namespace Go.Proofs.Ytphofjinncbaaaa
open Go.RowKit
set_option linter.unusedVariables false
theorem nb_mod_one {x i : Nat} (h : x / 2 ^ i % 2 = 1) : nb (x % 2 ^ (i + 1)) = i + 1 := by
  have e : x % 2 ^ (i + 1) = x % 2 ^ i + 2 ^ i * (x / 2 ^ i % 2) := by rw [Nat.pow_succ, Nat.mod_mul]
  have := Nat.mod_lt x (two_pos i)
  rw [e, h]
  exact nb_uniq (by omega) (by rw [Nat.pow_succ]; omega)
theorem mod_zerob {x i : Nat} (h : x / 2 ^ i % 2 = 0) : x % 2 ^ (i + 1) = x % 2 ^ i := by
  rw [Nat.pow_succ, Nat.mod_mul, h]; simp
/-- how often 2 divides -/
def tzn (x : Nat) : Nat := if x = 0 then 0 else Lib.ctzFrom x x
theorem tzn_uniq {x t m : Nat} (h : x = 2 ^ t * (2 * m + 1)) : tzn x = t := by
  have hx : 0 < x := by rw [h]; exact Nat.mul_pos (two_pos t) (by omega)
  obtain ⟨k, hk, _⟩ := Lib.ctzFrom_spec x x hx (Nat.lt_two_pow_self)
  rw [tzn, if_neg (by omega)]
  generalize Lib.ctzFrom x x = s at *
  rw [h] at hk
  have key : ∀ a b p q : Nat, a < b → 2 ^ a * (2 * p + 1) = 2 ^ b * (2 * q + 1) → False := by
    intro a b p q hab he
    obtain ⟨d, rfl⟩ : ∃ d, b = a + (d + 1) := ⟨b - a - 1, by omega⟩
    rw [Nat.pow_add, Nat.mul_assoc] at he
    have := Nat.eq_of_mul_eq_mul_left (two_pos a) he
    rw [Nat.pow_succ, Nat.mul_comm (2 ^ d), Nat.mul_assoc] at this
    omega
  rcases Nat.lt_trichotomy s t with h1 | h1 | h1
  · exact (key _ _ _ _ h1 hk.symm).elim
  · exact h1
  · exact (key _ _ _ _ h1 hk).elim
theorem tzn_bit {x t : Nat} (h0 : x % 2 ^ t = 0) (h1 : x / 2 ^ t % 2 = 1) : tzn x = t := by
  refine tzn_uniq (m := x / 2 ^ t / 2) ?_
  have a := Nat.div_add_mod x (2 ^ t)
  have b := Nat.div_add_mod (x / 2 ^ t) 2
  rw [h0, Nat.add_zero] at a
  rw [h1] at b
  rw [b]
  exact a.symm
end Go.Proofs.Ytphofjinncbaaaa
namespace Go.Proofs.Ytphofjinncbaaaa
open Go.RowKit
set_option linter.unusedVariables false
theorem tz_key (x a : Nat) (hx : x < 18446744073709551616) (hx0 : x ≠ 0) (hlow : x &&& (18446744073709551616 - x) = a) :
    IntKind.u64.wrap (bits BinOp.and IntKind.u64 (x : Int) (IntKind.u64.wrap (-(x : Int))) * 285870213051353865) / 288230376151711744 = ((a * 285870213051353865 % 18446744073709551616 / 288230376151711744 : Nat) : Int) := by
  have e1 : IntKind.u64.wrap (-(x : Int)) = ((18446744073709551616 - x : Nat) : Int) := by rw [IntKind.wrap_u64]; omega
  rw [e1, bits_and_u64_nat x _ hx (by omega), hlow, IntKind.wrap_u64]
  omega
theorem ctz_word {x : Nat} (hx : x < W) (h0 : x ≠ 0) : ∃ m, x = 2 ^ Lib.ctz 64 x * (2 * m + 1) := by
  obtain ⟨m, hm, _⟩ := Lib.ctzFrom_spec 64 x (by omega) hx
  exact ⟨m, by rw [Lib.ctz, if_neg h0]; exact hm⟩
theorem tzn_words {xs : List Nat} (h : All W xs) {i : Nat} (hz : val W (xs.take i) = 0) (h0 : nth xs i ≠ 0) : tzn (val W xs) = i * 64 + Lib.ctz 64 (nth xs i) := by
  have hW := h.nth W_pos i
  obtain ⟨m, hm⟩ := ctz_word hW h0
  obtain ⟨_, hk⟩ := Lib.lowest_bit 64 (nth xs i) h0 hW
  generalize Lib.ctz 64 (nth xs i) = t at *
  have e : val W xs = val W (xs.take i) + W ^ i * val W (xs.drop i) := by
    have a := val_append (b := W) (xs.take i) (xs.drop i)
    rw [List.take_append_drop] at a
    have hi : i < xs.length := by
      rcases Nat.lt_or_ge i xs.length with h1 | h1
      · exact h1
      · exact absurd (nth_ge h1) h0
    rw [List.length_take, Nat.min_eq_left (by omega)] at a
    exact a
  rw [hz, Nat.zero_add, val_nth, hm, W_pow2] at e
  have hWt : W = 2 ^ t * 2 ^ (64 - t) := W_two (by omega)
  have h2 : 2 ^ (64 - t) = 2 * 2 ^ (63 - t) := by rw [show 64 - t = 63 - t + 1 by omega, Nat.pow_succ, Nat.mul_comm]
  generalize val W (xs.drop (i + 1)) = Z at e
  refine tzn_uniq (m := m + 2 ^ (63 - t) * Z) ?_
  have e3 : W * Z = 2 ^ t * (2 * (2 ^ (63 - t) * Z)) := by rw [hWt, h2, Nat.mul_assoc, Nat.mul_assoc]
  have e4 : 2 * (m + 2 ^ (63 - t) * Z) + 1 = 2 * m + 1 + 2 * (2 ^ (63 - t) * Z) := by rw [Nat.mul_add]; omega
  rw [e, e3, ← Nat.mul_add, e4, Nat.mul_comm i 64, Nat.pow_add, Nat.mul_assoc]
theorem bit_word {x r : Nat} (hx : x < W) : bits .and .u64 (((x / 2 ^ r : Nat) : Int)) 1 = ((x / 2 ^ r % 2 : Nat) : Int) := by
  have h := bits_and_u64_nat (x / 2 ^ r) 1 (Nat.lt_of_le_of_lt (Nat.div_le_self _ _) hx) (by omega)
  rw [Nat.and_one_is_mod] at h
  exact h
theorem nth_bit64 {xs : List Nat} (h : All W xs) (i : Nat) : nth xs (i / 64) / 2 ^ (i % 64) % 2 = val W xs / 2 ^ i % 2 := by
  rw [two_split i, Nat.mul_comm, ← Nat.div_div_eq_div_mul, ← val_drop_div h, val_nth]
  have hW : W = 2 ^ (i % 64) * 2 ^ (64 - i % 64) := W_two (by omega)
  have h2 : 2 ^ (64 - i % 64) = 2 * 2 ^ (63 - i % 64) := by rw [show 64 - i % 64 = 63 - i % 64 + 1 by omega, Nat.pow_succ, Nat.mul_comm]
  rw [hW, Nat.mul_assoc, Nat.add_mul_div_left _ _ (two_pos _), h2, Nat.mul_assoc, Nat.add_mul_mod_self_left]
end Go.Proofs.Ytphofjinncbaaaa
namespace Go.Proofs.Ytphofjinncbaaaa
open Go.RowKit
set_option linter.unusedVariables false

theorem norm_cons {x : Nat} {xs : List Nat} (h : Norm xs) (hx : xs ≠ [] ∨ x ≠ 0) : Norm (x :: xs) := by
  rcases snoc_cases xs with rfl | ⟨ys, y, rfl⟩
  · have h0 : x ≠ 0 := by rcases hx with h1 | h1; exact absurd rfl h1; exact h1
    simp [Norm, strip, h0]
  · by_cases hy : y = 0
    · subst hy
      unfold Norm at h
      rw [strip_snoc_zero] at h
      have := strip_length_le ys
      rw [h] at this
      simp at this
      omega
    · show strip (x :: (ys ++ [y])) = _
      rw [← List.cons_append, strip_snoc hy]
theorem dg_cons {b t : Nat} (hb : 1 < b) (ht : 0 < t) : dg b t = (t % b) :: dg b (t / b) := by
  refine Eq.trans ?_ (norm_dg hb (xs := (t % b) :: dg b (t / b)) (All.cons (Nat.mod_lt _ (by omega)) (dg_all hb _)) (norm_cons (dg_norm _) ?_)).symm
  · rw [val, dg_val hb, Nat.mod_add_div]
  · by_cases h : t / b = 0
    · right
      have := Nat.div_add_mod t b
      intro h2
      rw [h, h2] at this
      omega
    · left
      exact fun e => h ((dg_nil_iff hb).1 e)
theorem dg_len64 {b x L : Nat} (hb : 1 < b) (hx : x < W ^ L) : (dg b x).length ≤ 64 * L := by
  refine dg_len hb (Nat.lt_of_lt_of_le hx ?_)
  have : W ^ L = 2 ^ (64 * L) := by rw [show W = 2 ^ 64 from rfl, ← Nat.pow_mul]
  rw [this]
  exact Nat.pow_le_pow_left hb _

/-- an own slice apart from the block that has turned -/
theorem Own.apart {k : IntKind} {t : TypeId} {B n c n1 c1 : Nat} {w w' : World} {A A1 : Option Addr} {xs : List Nat} (h : Own k t B w A n c xs) (hlt : ∀ g, (Value.slice A1 n1 c1).ownBlock = some g → g < B) (hg : w.grownBy w' (Value.slice A1 n1 c1).ownBlock) : Own k t B w' A n c xs := by
  refine World.ownsRow.kept h hg ?_
  rcases A with _ | a
  · exact .inl rfl
  · right
    intro e
    rcases A1 with _ | a1
    · cases e
    · have h1 := hlt _ rfl
      have h2 := World.ownsRow.lt h _ rfl
      simp only [Value.ownBlock] at e
      injection e with e
      omega
/-- the digits -/
def GDig (w : World) (b x : Nat) (e : Ending) (w' : World) : Prop :=
  ∃ A n c, e = .returned (.tuple #[.slice A n c, .int .i64 0]) ∧ Own .u64 76 w.heap.size w' A n c (dg b x) ∧ Below w.heap.size w w'
end Go.Proofs.Ytphofjinncbaaaa
namespace Go.Proofs.Ytphofjinncbaaaa
open Go.RowKit
set_option linter.unusedVariables false
theorem nb_spec {x : Nat} : x / 2 ^ nb x = 0 := Nat.div_eq_of_lt (nb_lt x)
theorem half_up (x j : Nat) : x / 2 ^ j = 2 * (x / 2 ^ (j + 1)) + x / 2 ^ j % 2 := by
  rw [Nat.pow_succ, ← Nat.div_div_eq_div_mul]
  omega
theorem pow_sq {a q m : Nat} : (a ^ q % m) * (a ^ q % m) % m = a ^ (2 * q) % m := by
  rw [← Nat.mul_mod, ← Nat.pow_add]
  congr 2
  omega
theorem pow_sq1 {a q m : Nat} : (a ^ (2 * q) % m) * a % m = a ^ (2 * q + 1) % m := by
  rw [Nat.pow_succ, Nat.mul_mod, Nat.mod_mod, ← Nat.mul_mod]
end Go.Proofs.Ytphofjinncbaaaa
