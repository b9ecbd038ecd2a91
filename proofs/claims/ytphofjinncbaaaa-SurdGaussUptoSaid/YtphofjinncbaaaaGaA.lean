/-
  Whole numbers below 2^53 as floats: sums, products, conversions are exact. Gaussian numbers and polynomials' values at them, in plain Lean. gauss: abs, fits, Size, inside, outside, Add, Mul, Conj, Norm. nat.Word, zz.Small; gauss.Value. gauss.Value.
-/
import Derived.Laws.ComplexArith
import Derived.KernelRfl
import Derived.Test.YtphofjinncbaaaaZpY
import Derived.Test.YtphofjinncbaaaaIntG
namespace Go.Proofs.Ytphofjinncbaaaa
open Ieee
set_option linter.unusedVariables false
set_option linter.unusedSimpArgs false

/-- the datum means the whole number z -/
def Dat (d : Datum) (z : Int) : Prop := ∃ (s : Bool) (m q : Nat), d = .number s m (-(q : Int)) ∧ m = z.natAbs * 2 ^ q ∧ (s = false → 0 ≤ z) ∧ (s = true → z ≤ 0)
/-- the word means the whole number z -/
def IsW (b : Nat) (z : Int) : Prop := Dat (double.read b) z

theorem shl_pow (a n : Nat) : a <<< n = a * 2 ^ n := Nat.shiftLeft_eq a n
theorem signed_of {s : Bool} {z : Int} {q n : Nat} (h0 : s = false → 0 ≤ z) (h1 : s = true → z ≤ 0) : signed s (z.natAbs * 2 ^ q) n = z * 2 ^ (q + n) := by
  unfold signed
  rw [shl_pow, Nat.mul_assoc, ← Nat.pow_add]
  cases s with
  | false =>
    have := h0 rfl
    simp only [Bool.false_eq_true, if_false]
    rw [Int.natCast_mul, Int.natCast_pow]
    rw [Int.natAbs_of_nonneg this]; rfl
  | true =>
    have := h1 rfl
    simp only [if_true]
    rw [Int.natCast_mul, Int.natCast_pow]
    have e : (z.natAbs : Int) = -z := by omega
    rw [e, Int.neg_mul, Int.neg_neg]; rfl
theorem int_pow_pos (n : Nat) : (0 : Int) < 2 ^ n := by
  have : (0 : Int) < ((2 ^ n : Nat) : Int) := by exact_mod_cast Nat.pow_pos (by decide : 0 < 2)
  simpa using this
theorem natAbs_scale (z : Int) (n : Nat) : (z * 2 ^ n).natAbs = z.natAbs * 2 ^ n := by
  rw [Int.natAbs_mul, Int.natAbs_pow]; rfl
theorem Dat.sum {d e : Datum} {x y : Int} (hd : Dat d x) (he : Dat e y) : ∃ r, d.sum e = some r ∧ Dat r (x + y) := by
  obtain ⟨s, m, q, rfl, rfl, h0, h1⟩ := hd
  obtain ⟨t, n, p, rfl, rfl, k0, k1⟩ := he
  obtain ⟨Q, hQ⟩ : ∃ Q : Nat, min (-(q : Int)) (-(p : Int)) = -(Q : Int) ∧ q ≤ Q ∧ p ≤ Q := ⟨max q p, by omega, by omega, by omega⟩
  obtain ⟨hm, hq, hp⟩ := hQ
  refine ⟨_, rfl, ?_⟩
  have e1 : (-(q : Int) - -(Q : Int)).toNat = Q - q := by omega
  have e2 : (-(p : Int) - -(Q : Int)).toNat = Q - p := by omega
  simp only [hm]
  rw [e1, e2, signed_of h0 h1, signed_of k0 k1, show q + (Q - q) = Q by omega, show p + (Q - p) = Q by omega, ← Int.add_mul]
  have hpos := int_pow_pos Q
  refine ⟨_, _, Q, rfl, natAbs_scale _ _, fun hs => ?_, fun hs => ?_⟩
  · split at hs
    · rename_i hz
      rcases Int.mul_eq_zero.1 hz with h | h <;> omega
    · simp only [decide_eq_false_iff_not, Int.not_lt] at hs
      exact Int.nonneg_of_mul_nonneg_left hs hpos
  · split at hs
    · rename_i hz
      rcases Int.mul_eq_zero.1 hz with h | h <;> omega
    · simp only [decide_eq_true_eq] at hs
      rcases Int.lt_or_le (x + y) 0 with h | h
      · omega
      · have := Int.mul_nonneg h (Int.le_of_lt hpos); omega
theorem Dat.product {d e : Datum} {x y : Int} (hd : Dat d x) (he : Dat e y) : ∃ r, d.product e = some r ∧ Dat r (x * y) := by
  obtain ⟨s, m, q, rfl, rfl, h0, h1⟩ := hd
  obtain ⟨t, n, p, rfl, rfl, k0, k1⟩ := he
  refine ⟨_, rfl, s ^^ t, x.natAbs * 2 ^ q * (y.natAbs * 2 ^ p), q + p, ?_, ?_, fun hs => ?_, fun hs => ?_⟩
  · rw [show -(q : Int) + -(p : Int) = -((q + p : Nat) : Int) by omega]
  · rw [Int.natAbs_mul, Nat.pow_add]
    simp only [Nat.mul_assoc, Nat.mul_comm, Nat.mul_left_comm]
  · cases s <;> cases t <;> simp at hs
    · exact Int.mul_nonneg (h0 rfl) (k0 rfl)
    · exact Int.mul_nonneg_of_nonpos_of_nonpos (h1 rfl) (k1 rfl)
  · cases s <;> cases t <;> simp at hs
    · exact Int.mul_nonpos_of_nonneg_of_nonpos (h0 rfl) (k1 rfl)
    · exact Int.mul_nonpos_of_nonpos_of_nonneg (h1 rfl) (k0 rfl)
theorem Dat.opposite {d : Datum} {x : Int} (hd : Dat d x) : Dat d.opposite (-x) := by
  obtain ⟨s, m, q, rfl, rfl, h0, h1⟩ := hd
  refine ⟨!s, _, q, rfl, by rw [Int.natAbs_neg], fun hs => ?_, fun hs => ?_⟩
  · have := h1 (by simpa using hs); omega
  · have := h0 (by simpa using hs); omega
theorem Dat.int (z : Int) : Dat (.number (z < 0) z.natAbs 0) z := ⟨_, _, 0, rfl, by simp, fun h => by simpa using h, fun h => Int.le_of_lt (by simpa using h)⟩
theorem dat_zero (s : Bool) (q : Nat) : Dat (.number s 0 (-(q : Int))) 0 := ⟨s, 0, q, rfl, (Nat.zero_mul _).symm, fun _ => Int.le_refl _, fun _ => Int.le_refl _⟩
theorem cut_exact {way : Toward} {neg : Bool} {k drop : Nat} : way.cut neg (k * 2 ^ drop) drop = k := by
  have hp : 0 < 2 ^ drop := Nat.pow_pos (by decide)
  have key : (1 <<< min drop ((k * 2 ^ drop).log2 + 2) ∣ k * 2 ^ drop) ∧ (k * 2 ^ drop) / (1 <<< min drop ((k * 2 ^ drop).log2 + 2)) = k ∧ 0 < 1 <<< min drop ((k * 2 ^ drop).log2 + 2) := by
    rw [shl_pow, Nat.one_mul]
    by_cases hk : k = 0
    · subst hk
      rw [Nat.zero_mul]
      exact ⟨Nat.dvd_zero _, Nat.zero_div _, Nat.pow_pos (by decide)⟩
    · have hle : drop ≤ (k * 2 ^ drop).log2 := by
        rw [Nat.le_log2 (Nat.mul_ne_zero hk (Nat.ne_of_gt hp))]
        exact Nat.le_mul_of_pos_left _ (by omega)
      rw [show min drop ((k * 2 ^ drop).log2 + 2) = drop by omega]
      exact ⟨Nat.dvd_mul_left _ _, Nat.mul_div_cancel _ hp, hp⟩
  obtain ⟨k1, k2, k3⟩ := key
  unfold Toward.cut
  generalize 1 <<< min drop ((k * 2 ^ drop).log2 + 2) = gap at *
  simp only
  rw [k2, Nat.mod_eq_zero_of_dvd k1]
  have e1 : ¬ gap < 2 * 0 := by omega
  have e2 : ¬ gap = 2 * 0 := by omega
  cases way <;> simp [e1, e2, k3, Nat.ne_of_gt k3]
theorem Dat.toInt {d : Datum} {z : Int} (hd : Dat d z) : d.toInt .zero = some z := by
  obtain ⟨s, m, q, rfl, rfl, h0, h1⟩ := hd
  unfold Datum.toInt Datum.integral
  simp only
  rw [show (-(q : Int)).toNat = 0 by omega, show (- -(q : Int)).toNat = q by omega, shl_pow, Nat.pow_zero, Nat.mul_one, cut_exact]
  have := signed_of (q := 0) (n := 0) h0 h1
  simp only [Nat.pow_zero, Nat.mul_one] at this
  rw [this]; simp
theorem read_word {neg : Bool} {k e : Nat} (hk : 2 ^ 52 ≤ k) (hk2 : k < 2 ^ 53) (he : e ≤ 1100) :
    double.read (double.word neg (e * 2 ^ 52 + k)) = .number neg k (-1074 + (e : Int)) := by
  have hsw : double.signWeight = 2 ^ 63 := rfl
  have hb : double.binade = 2 ^ 52 := rfl
  have hi : double.infRung = 2047 * 2 ^ 52 := rfl
  have hl : double.leastPlace = -1074 := by decide
  have hr : e * 2 ^ 52 + k < 2 ^ 63 := by omega
  have hw : double.word neg (e * 2 ^ 52 + k) / 2 ^ 63 % 2 = neg.toNat ∧ double.word neg (e * 2 ^ 52 + k) % 2 ^ 63 = e * 2 ^ 52 + k := by
    unfold Format.word
    rw [hsw]
    cases neg
    · simp only [Bool.false_eq_true, if_false, Bool.toNat_false]; omega
    · simp only [if_true, Bool.toNat_true]; omega
  unfold Format.read
  simp only [hsw, hb, hi, hl, hw.1, hw.2]
  rw [if_neg (by omega), if_pos (by omega)]
  have e1 : (e * 2 ^ 52 + k) % 2 ^ 52 = k - 2 ^ 52 := by omega
  have e2 : (e * 2 ^ 52 + k) / 2 ^ 52 = e + 1 := by omega
  rw [e1, e2, Nat.add_sub_cancel, show 2 ^ 52 + (k - 2 ^ 52) = k by omega]
  cases neg <;> rfl
theorem Dat.write {d : Datum} {z : Int} (hd : Dat d z) (hz : z.natAbs < 2 ^ 53) : IsW (double.write d) z := by
  obtain ⟨s, m, q, rfl, rfl, h0, h1⟩ := hd
  show IsW (double.nearest s (z.natAbs * 2 ^ q) (-(q : Int))) z
  have hl : double.leastPlace = -1074 := by decide
  have hf : double.fractionBits = 52 := rfl
  have hb : double.binade = 2 ^ 52 := rfl
  have hi : double.infRung = 2047 * 2 ^ 52 := rfl
  by_cases h : z = 0
  · subst h
    unfold Format.nearest
    rw [if_pos (by simp)]
    unfold IsW
    have hr : double.read (double.word s 0) = .number s 0 (-((1074 : Nat) : Int)) := by cases s <;> decide
    rw [hr]
    exact dat_zero s 1074
  · obtain ⟨k, hk⟩ : ∃ k, k = z.natAbs := ⟨_, rfl⟩
    have hk0 : k ≠ 0 := by omega
    rw [← hk] at hz ⊢
    obtain ⟨L, hL⟩ : ∃ L, L = k.log2 := ⟨_, rfl⟩
    have hL1 : 2 ^ L ≤ k := by rw [hL]; exact Nat.log2_self_le hk0
    have hL2 : k < 2 ^ (L + 1) := by rw [hL]; exact Nat.lt_log2_self
    have hL52 : L ≤ 52 := by
      rcases Nat.lt_or_ge 52 L with h | h
      · have := Nat.pow_le_pow_right (n := 2) (by decide) h
        omega
      · exact h
    have hlog : (k * 2 ^ q).log2 = L + q := by
      have hne : k * 2 ^ q ≠ 0 := Nat.mul_ne_zero hk0 (Nat.ne_of_gt (Nat.pow_pos (by decide)))
      refine Nat.le_antisymm (Nat.lt_succ_iff.1 ((Nat.log2_lt hne).2 ?_)) ((Nat.le_log2 hne).2 ?_)
      · rw [show (L + q).succ = (L + 1) + q by omega, Nat.pow_add]
        exact (Nat.mul_lt_mul_right (Nat.pow_pos (by decide))).2 hL2
      · rw [Nat.pow_add]; exact Nat.mul_le_mul_right _ hL1
    have hK1 : 2 ^ 52 ≤ k * 2 ^ (52 - L) := by
      have := Nat.mul_le_mul_right (2 ^ (52 - L)) hL1
      rw [← Nat.pow_add, show L + (52 - L) = 52 by omega] at this
      exact this
    have hK2 : k * 2 ^ (52 - L) < 2 ^ 53 := by
      have := (Nat.mul_lt_mul_right (Nat.pow_pos (by decide : 0 < 2) (n := 52 - L))).2 hL2
      rw [← Nat.pow_add, show L + 1 + (52 - L) = 53 by omega] at this
      exact this
    have hcut : Toward.even.cut s ((k * 2 ^ q) <<< (-(q : Int) - ((L : Int) - 52)).toNat) (((L : Int) - 52) - -(q : Int)).toNat = k * 2 ^ (52 - L) := by
      rcases Nat.lt_or_ge (L + q) 52 with h | h
      · rw [show (-(q : Int) - ((L : Int) - 52)).toNat = 52 - L - q by omega, show (((L : Int) - 52) - -(q : Int)).toNat = 0 by omega, shl_pow, Nat.mul_assoc, ← Nat.pow_add, show q + (52 - L - q) = 52 - L by omega]
        have := cut_exact (way := .even) (neg := s) (k := k * 2 ^ (52 - L)) (drop := 0)
        rwa [Nat.pow_zero, Nat.mul_one] at this
      · rw [show (-(q : Int) - ((L : Int) - 52)).toNat = 0 by omega, show (((L : Int) - 52) - -(q : Int)).toNat = L + q - 52 by omega, shl_pow, Nat.pow_zero, Nat.mul_one]
        have := cut_exact (way := .even) (neg := s) (k := k * 2 ^ (52 - L)) (drop := L + q - 52)
        rwa [Nat.mul_assoc, ← Nat.pow_add, show 52 - L + (L + q - 52) = q by omega] at this
    unfold Format.nearest
    rw [if_neg (Nat.mul_ne_zero hk0 (Nat.ne_of_gt (Nat.pow_pos (by decide))))]
    simp only [hl, hf, hb, hi, hlog]
    rw [show max (-(q : Int) + ((L + q : Nat) : Int) - ((52 : Nat) : Int)) (-1074) = (L : Int) - 52 by omega, hcut, show ((L : Int) - 52 - -1074).toNat = L + 1022 by omega]
    rw [Nat.min_eq_left (by omega)]
    unfold IsW
    rw [read_word hK1 hK2 (by omega)]
    refine ⟨s, k * 2 ^ (52 - L), 52 - L, ?_, by rw [hk], h0, h1⟩
    rw [show (-1074 + ((L + 1022 : Nat) : Int)) = -((52 - L : Nat) : Int) by omega]
end Go.Proofs.Ytphofjinncbaaaa
namespace Go.Proofs.Ytphofjinncbaaaa
open Ieee
set_option linter.unusedVariables false
set_option linter.unusedSimpArgs false

theorem IsW.zero : IsW 0 0 := by
  unfold IsW
  rw [show double.read 0 = .number false 0 (-((1074 : Nat) : Int)) from by decide]
  exact dat_zero _ _
theorem IsW.one : IsW 4607182418800017408 1 := ⟨false, 2 ^ 52, 52, by decide, by decide, fun _ => by decide, fun h => by cases h⟩
theorem IsW.int {z : Int} (h : z.natAbs < 2 ^ 53) : IsW (floatOfInt .f64 z) z := (Dat.int z).write h
theorem IsW.add {a b : Nat} {x y : Int} (ha : IsW a x) (hb : IsW b y) (h : (x + y).natAbs < 2 ^ 53) : ∃ r, floatBits .add .f64 a b = some r ∧ IsW r (x + y) := by
  obtain ⟨d, h1, h2⟩ := Dat.sum ha hb
  exact ⟨_, by show ((double.read a).sum (double.read b)).map double.write = _; rw [h1]; rfl, h2.write h⟩
theorem IsW.sub {a b : Nat} {x y : Int} (ha : IsW a x) (hb : IsW b y) (h : (x - y).natAbs < 2 ^ 53) : ∃ r, floatBits .sub .f64 a b = some r ∧ IsW r (x - y) := by
  obtain ⟨d, h1, h2⟩ := Dat.sum ha (Dat.opposite hb)
  exact ⟨_, by show ((double.read a).sum (double.read b).opposite).map double.write = _; rw [h1]; rfl, h2.write h⟩
theorem IsW.mul {a b : Nat} {x y : Int} (ha : IsW a x) (hb : IsW b y) (h : (x * y).natAbs < 2 ^ 53) : ∃ r, floatBits .mul .f64 a b = some r ∧ IsW r (x * y) := by
  obtain ⟨d, h1, h2⟩ := Dat.product ha hb
  exact ⟨_, by show ((double.read a).product (double.read b)).map double.write = _; rw [h1]; rfl, h2.write h⟩
theorem IsW.toInt {b : Nat} {z : Int} (h : IsW b z) (h1 : -9223372036854775808 ≤ z) (h2 : z ≤ 9223372036854775807) : floatToIntVal .f64 b .i64 = some z := by
  unfold floatToIntVal
  have : (FloatKind.f64.decode b).toInt .zero = some z := Dat.toInt h
  rw [this]
  have e1 : IntKind.i64.min = -9223372036854775808 := by decide
  have e2 : IntKind.i64.max = 9223372036854775807 := by decide
  simp only
  rw [if_pos ⟨by omega, by omega⟩]
/-- a complex number with whole parts -/
def IsC (a b : Nat) (x : Int × Int) : Prop := IsW a x.1 ∧ IsW b x.2
theorem IsC.sum {a b c d : Nat} {x y : Int × Int} (hx : IsC a b x) (hy : IsC c d y) (h1 : (x.1 + y.1).natAbs < 2 ^ 53) (h2 : (x.2 + y.2).natAbs < 2 ^ 53) :
    ∃ re im, cSumBits .add .f64 a b c d = some (re, im) ∧ IsC re im (x.1 + y.1, x.2 + y.2) := by
  obtain ⟨r1, e1, k1⟩ := hx.1.add hy.1 h1
  obtain ⟨r2, e2, k2⟩ := hx.2.add hy.2 h2
  exact ⟨r1, r2, by unfold cSumBits; rw [e1, e2]; rfl, k1, k2⟩
theorem IsC.diff {a b c d : Nat} {x y : Int × Int} (hx : IsC a b x) (hy : IsC c d y) (h1 : (x.1 - y.1).natAbs < 2 ^ 53) (h2 : (x.2 - y.2).natAbs < 2 ^ 53) :
    ∃ re im, cSumBits .sub .f64 a b c d = some (re, im) ∧ IsC re im (x.1 - y.1, x.2 - y.2) := by
  obtain ⟨r1, e1, k1⟩ := hx.1.sub hy.1 h1
  obtain ⟨r2, e2, k2⟩ := hx.2.sub hy.2 h2
  exact ⟨r1, r2, by unfold cSumBits; rw [e1, e2]; rfl, k1, k2⟩
theorem IsC.prod {a b c d : Nat} {x y : Int × Int} (hx : IsC a b x) (hy : IsC c d y) (h1 : (x.1 * y.1).natAbs + (x.2 * y.2).natAbs < 2 ^ 53) (h2 : (x.1 * y.2).natAbs + (x.2 * y.1).natAbs < 2 ^ 53) :
    ∃ re im, cMulBits a b c d = some (re, im) ∧ IsC re im (x.1 * y.1 - x.2 * y.2, x.1 * y.2 + x.2 * y.1) := by
  obtain ⟨r1, e1, k1⟩ := hx.1.mul hy.1 (by omega)
  obtain ⟨r2, e2, k2⟩ := hx.2.mul hy.2 (by omega)
  obtain ⟨r3, e3, k3⟩ := k1.sub k2 (by omega)
  obtain ⟨r4, e4, k4⟩ := hx.1.mul hy.2 (by omega)
  obtain ⟨r5, e5, k5⟩ := hx.2.mul hy.1 (by omega)
  obtain ⟨r6, e6, k6⟩ := k4.add k5 (by omega)
  exact ⟨r3, r6, by unfold cMulBits; rw [e1, e2]; simp only [Option.bind_some]; rw [e3, e4, e5]; simp only [Option.bind_some]; rw [e6]; rfl, k3, k6⟩
end Go.Proofs.Ytphofjinncbaaaa
namespace Go.Proofs.Ytphofjinncbaaaa
open Ieee
theorem xor1_mod (x : Nat) : (x ^^^ 1) % 2 = 1 - x % 2 := by
  have h := Nat.xor_mod_two_pow (a := x) (b := 1) (n := 1)
  rw [Nat.pow_one] at h
  rw [h]
  rcases Nat.mod_two_eq_zero_or_one x with e | e <;> rw [e] <;> rfl
theorem read_neg (b : Nat) : double.read (Op.negFloat .f64 b) = (double.read b).opposite := by
  have hsw : double.signWeight = 2 ^ 63 := rfl
  have h1 : Op.negFloat .f64 b = b ^^^ 2 ^ 63 := rfl
  have h2 : (b ^^^ 2 ^ 63) % 2 ^ 63 = b % 2 ^ 63 := by
    rw [Nat.xor_mod_two_pow, Nat.mod_self, Nat.xor_zero]
  have h3 : (b ^^^ 2 ^ 63) / 2 ^ 63 % 2 = 1 - b / 2 ^ 63 % 2 := by
    rw [Nat.xor_div_two_pow, Nat.div_self (by decide), xor1_mod]
  unfold Format.read
  simp only [hsw, h1, h2, h3]
  have hn : ((1 - b / 2 ^ 63 % 2) == 1) = !(b / 2 ^ 63 % 2 == 1) := by
    rcases Nat.mod_two_eq_zero_or_one (b / 2 ^ 63) with e | e <;> rw [e] <;> rfl
  rw [hn]
  split
  · rfl
  · split
    · rfl
    · split
      · rfl
      · rfl
theorem IsW.neg {b : Nat} {z : Int} (h : IsW b z) : IsW (Op.negFloat .f64 b) (-z) := by
  unfold IsW
  rw [read_neg]
  exact Dat.opposite h
@[go_sem] theorem unary_negf (b : Nat) : Op.unary .neg (.float .f64 b) = pure (.float .f64 (Op.negFloat .f64 b)) := rfl
end Go.Proofs.Ytphofjinncbaaaa
namespace Go.Proofs.Ytphofjinncbaaaa
open Go.RowKit
set_option linter.unusedVariables false
set_option linter.unusedSimpArgs false

abbrev Gz := Int × Int
def gadd (a b : Gz) : Gz := (a.1 + b.1, a.2 + b.2)
def gmul (a b : Gz) : Gz := (a.1 * b.1 - a.2 * b.2, a.1 * b.2 + a.2 * b.1)
def gcj (a : Gz) : Gz := (a.1, -a.2)
def gsz (a : Gz) : Nat := a.1.natAbs + a.2.natAbs
def gnm (a : Gz) : Int := a.1 * a.1 + a.2 * a.2
/-- the value -/
def gev : List Int → Gz → Gz
  | [], _ => (0, 0)
  | z :: zs, x => gadd (gmul (gev zs x) x) (z, 0)
theorem gz_ext {a b : Gz} (h1 : a.1 = b.1) (h2 : a.2 = b.2) : a = b := Prod.ext h1 h2
theorem gev_c1 (z : Int) (zs : List Int) (x : Gz) : (gev (z :: zs) x).1 = (gev zs x).1 * x.1 - (gev zs x).2 * x.2 + z := rfl
theorem gev_c2 (z : Int) (zs : List Int) (x : Gz) : (gev (z :: zs) x).2 = (gev zs x).1 * x.2 + (gev zs x).2 * x.1 + 0 := rfl
theorem gev_zero {p : List Int} (x : Gz) : (∀ i, zn p i = 0) → gev p x = (0, 0) := by
  induction p with
  | nil => intro _; rfl
  | cons z p ih =>
    intro h
    have h1 := ih (fun i => by rw [← zn_cs z]; exact h (i + 1))
    have h2 : z = 0 := by rw [← zn_c0 z p, h 0]
    refine gz_ext ?_ ?_
    · rw [gev_c1, h1, h2]; simp
    · rw [gev_c2, h1]; simp
theorem gev_ext {p : List Int} (x : Gz) : ∀ {q : List Int}, (∀ i, zn p i = zn q i) → gev p x = gev q x := by
  induction p with
  | nil => intro q h; exact (gev_zero x fun i => by rw [← h i, zn_nil]).symm
  | cons z p ih =>
    intro q h
    cases q with
    | nil => exact gev_zero x fun i => by rw [h i, zn_nil]
    | cons y q =>
      show gadd (gmul (gev p x) x) (z, 0) = gadd (gmul (gev q x) x) (y, 0)
      rw [ih (q := q) fun i => by rw [← zn_cs z, ← zn_cs y]; exact h (i + 1)]
      have := h 0
      rw [zn_c0, zn_c0] at this
      rw [this]
theorem gev_ztr (zs : List Int) (x : Gz) : gev (ztr zs) x = gev zs x := gev_ext x (zn_ztr zs)
theorem gev_padd (t : Gz) : ∀ (a b : List Int), gev (padd a b) t = gadd (gev a t) (gev b t)
  | [], b => by simp [padd, gev, gadd]
  | x :: a, [] => by simp [padd, gev, gadd]
  | x :: a, y :: b => by
    have ih := gev_padd t a b
    have h1 : (gev (padd a b) t).1 = (gev a t).1 + (gev b t).1 := by rw [ih]; rfl
    have h2 : (gev (padd a b) t).2 = (gev a t).2 + (gev b t).2 := by rw [ih]; rfl
    show gev ((x + y) :: padd a b) t = _
    refine gz_ext ?_ ?_
    · show (gev ((x + y) :: padd a b) t).1 = (gev (x :: a) t).1 + (gev (y :: b) t).1
      rw [gev_c1, gev_c1, gev_c1, h1, h2]; grind
    · show (gev ((x + y) :: padd a b) t).2 = (gev (x :: a) t).2 + (gev (y :: b) t).2
      rw [gev_c2, gev_c2, gev_c2, h1, h2]; grind
theorem gev_zaddl (a b : List Int) (t : Gz) : gev (zaddl a b) t = gadd (gev a t) (gev b t) := by
  rw [← gev_padd]
  exact gev_ext t fun i => by rw [zn_zaddl, zn_padd]
theorem gev_smul (z : Int) (t : Gz) : ∀ b : List Int, gev (b.map (z * ·)) t = gmul (z, 0) (gev b t)
  | [] => by simp [gev, gmul]
  | y :: b => by
    have ih := gev_smul z t b
    have h1 : (gev (b.map (z * ·)) t).1 = z * (gev b t).1 - 0 * (gev b t).2 := by rw [ih]; rfl
    have h2 : (gev (b.map (z * ·)) t).2 = z * (gev b t).2 + 0 * (gev b t).1 := by rw [ih]; rfl
    refine gz_ext ?_ ?_
    · show (gev (z * y :: b.map (z * ·)) t).1 = z * (gev (y :: b) t).1 - 0 * (gev (y :: b) t).2
      rw [gev_c1, gev_c1, h1, h2]; grind
    · show (gev (z * y :: b.map (z * ·)) t).2 = z * (gev (y :: b) t).2 + 0 * (gev (y :: b) t).1
      rw [gev_c2, gev_c2, h1, h2]; grind
theorem ev_smul (z t : Int) : ∀ b : List Int, ev (b.map (z * ·)) t = z * ev b t
  | [] => by simp [ev]
  | y :: b => by
    show z * y + t * ev (b.map (z * ·)) t = z * (y + t * ev b t)
    rw [ev_smul z t b]; grind
/-- products by rows -/
def pmul : List Int → List Int → List Int
  | [], _ => []
  | z :: a, b => padd (b.map (z * ·)) (0 :: pmul a b)
theorem ev_pmul (t : Int) (b : List Int) : ∀ a : List Int, ev (pmul a b) t = ev a t * ev b t
  | [] => by simp [pmul, ev]
  | z :: a => by
    show ev (padd (b.map (z * ·)) (0 :: pmul a b)) t = (z + t * ev a t) * ev b t
    rw [ev_padd, ev_smul]
    show _ + (0 + t * ev (pmul a b) t) = _
    rw [ev_pmul t b a]; grind
theorem gev_pmul (t : Gz) (b : List Int) : ∀ a : List Int, gev (pmul a b) t = gmul (gev a t) (gev b t)
  | [] => by simp [pmul, gev, gmul]
  | z :: a => by
    have ih := gev_pmul t b a
    have h1 : (gev (pmul a b) t).1 = (gev a t).1 * (gev b t).1 - (gev a t).2 * (gev b t).2 := by rw [ih]; rfl
    have h2 : (gev (pmul a b) t).2 = (gev a t).1 * (gev b t).2 + (gev a t).2 * (gev b t).1 := by rw [ih]; rfl
    show gev (padd (b.map (z * ·)) (0 :: pmul a b)) t = _
    rw [gev_padd, gev_smul]
    refine gz_ext ?_ ?_
    · show (z * (gev b t).1 - 0 * (gev b t).2) + (gev (0 :: pmul a b) t).1 = (gev (z :: a) t).1 * (gev b t).1 - (gev (z :: a) t).2 * (gev b t).2
      rw [gev_c1, gev_c1, gev_c2, h1, h2]; grind
    · show (z * (gev b t).2 + 0 * (gev b t).1) + (gev (0 :: pmul a b) t).2 = (gev (z :: a) t).1 * (gev b t).2 + (gev (z :: a) t).2 * (gev b t).1
      rw [gev_c1, gev_c2, gev_c2, h1, h2]; grind
theorem gev_zmull (a b : List Int) (t : Gz) : gev (zmull a b) t = gmul (gev a t) (gev b t) := by
  rw [← gev_pmul]
  exact gev_ext t (ev_inj fun y _ => by rw [ev_zmull, ev_pmul])
theorem gev_cj (x : Gz) : ∀ zs : List Int, gev zs (gcj x) = gcj (gev zs x)
  | [] => rfl
  | z :: zs => by
    have ih := gev_cj x zs
    have h1 : (gev zs (gcj x)).1 = (gev zs x).1 := by rw [ih]; rfl
    have h2 : (gev zs (gcj x)).2 = -(gev zs x).2 := by rw [ih]; rfl
    refine gz_ext ?_ ?_
    · show (gev (z :: zs) (gcj x)).1 = (gev (z :: zs) x).1
      rw [gev_c1, gev_c1, h1, h2]
      show _ * x.1 - _ * (-x.2) + z = _
      grind
    · show (gev (z :: zs) (gcj x)).2 = -(gev (z :: zs) x).2
      rw [gev_c2, gev_c2, h1, h2]
      show _ * (-x.2) + _ * x.1 + 0 = _
      grind
theorem gnm_mul (a b : Gz) : gnm (gmul a b) = gnm a * gnm b := by
  unfold gnm gmul
  simp only
  grind
theorem gsz_cj (a : Gz) : gsz (gcj a) = gsz a := by unfold gsz gcj; simp only; rw [Int.natAbs_neg]
theorem gsz_add (a b : Gz) : gsz (gadd a b) ≤ gsz a + gsz b := by unfold gsz gadd; simp only; omega
/-- the four products of the parts -/
theorem gmul_parts (a b : Gz) : (a.1 * b.1).natAbs + (a.2 * b.2).natAbs + ((a.1 * b.2).natAbs + (a.2 * b.1).natAbs) = gsz a * gsz b := by
  simp only [Int.natAbs_mul, gsz]
  grind
theorem gsz_mul (a b : Gz) : gsz (gmul a b) ≤ gsz a * gsz b := by
  have := gmul_parts a b
  unfold gsz at this ⊢
  unfold gmul
  simp only
  omega
theorem gnm_nonneg (a : Gz) : 0 ≤ gnm a := by
  unfold gnm
  have h1 : 0 ≤ a.1 * a.1 := by rw [← Int.natAbs_mul_self]; exact Int.natCast_nonneg _
  have h2 : 0 ≤ a.2 * a.2 := by rw [← Int.natAbs_mul_self]; exact Int.natCast_nonneg _
  omega
theorem gnm_le (a : Gz) : gnm a ≤ (gsz a : Int) * gsz a := by
  have h := gmul_parts a a
  have h1 : (a.1 * a.1).natAbs + (a.2 * a.2).natAbs ≤ gsz a * gsz a := by omega
  unfold gnm
  have h2 : ((gsz a * gsz a : Nat) : Int) = (gsz a : Int) * gsz a := by simp
  omega
/-- sizes weighed -/
def wsum (s : Nat) : List Int → Nat
  | [] => 0
  | z :: zs => z.natAbs + s * wsum s zs
theorem gsz_gev {x : Gz} {s : Nat} (hs : gsz x ≤ s) : ∀ zs : List Int, gsz (gev zs x) ≤ wsum s zs
  | [] => Nat.le_refl _
  | z :: zs => by
    have ih := gsz_gev hs zs
    show gsz (gadd (gmul (gev zs x) x) (z, 0)) ≤ z.natAbs + s * wsum s zs
    have h1 := gsz_add (gmul (gev zs x) x) (z, 0)
    have h2 := gsz_mul (gev zs x) x
    have h3 := Nat.mul_le_mul ih hs
    have h4 : gsz ((z, 0) : Gz) = z.natAbs := by simp [gsz]
    have h5 : wsum s zs * s = s * wsum s zs := Nat.mul_comm _ _
    omega
theorem wsum_drop {s : Nat} (hs : 1 ≤ s) : ∀ (zs : List Int) (k : Nat), wsum s (zs.drop k) ≤ wsum s zs
  | [], k => by simp
  | z :: zs, 0 => Nat.le_refl _
  | z :: zs, k + 1 => by
    rw [List.drop_succ_cons]
    refine Nat.le_trans (wsum_drop hs zs k) ?_
    show _ ≤ z.natAbs + s * wsum s zs
    have := Nat.le_mul_of_pos_left (wsum s zs) hs
    omega
theorem wsum_step {s : Nat} (hs : 1 ≤ s) {zs : List Int} {k : Nat} (hk : k < zs.length) : s * wsum s (zs.drop (k + 1)) ≤ wsum s zs := by
  have := wsum_drop hs zs k
  rw [List.drop_eq_getElem_cons hk] at this
  refine Nat.le_trans ?_ this
  show _ ≤ _ + s * wsum s (zs.drop (k + 1))
  omega
end Go.Proofs.Ytphofjinncbaaaa
namespace Go.Proofs.Ytphofjinncbaaaa
open Go.RowKit
set_option linter.unusedVariables false
set_option linter.unusedSimpArgs false

/-- what the parts stay below -/
def GM : Nat := 1125899906842624
theorem GM_eq : GM = 1125899906842624 := rfl
def gabs (n : Int) : Nat := if GM ≤ n.natAbs then GM else n.natAbs
theorem gabs_small {n : Int} (h : n.natAbs < GM) : gabs n = n.natAbs := if_neg (by omega)
theorem gabs_le (n : Int) : gabs n ≤ GM := by unfold gabs; split <;> omega
set_option maxHeartbeats 400000 in
theorem gabs_any {n : Int} {w : World} (h1 : -9223372036854775808 ≤ n) (h2 : n ≤ 9223372036854775807) : Calls Try.prog 66 #[.int .i64 n] w (fun e w' => e = .returned (.int .i64 (gabs n : Int)) ∧ w = w') := by
  by_cases ha : n ≤ -1125899906842624
  · have e : (gabs n : Int) = 1125899906842624 := by unfold gabs GM; rw [if_pos (by omega)]; rfl
    rw [e]
    have d1 : decide (n ≤ (-1125899906842624 : Int)) = true := decide_eq_true ha
    clear e ha h1 h2
    go_enter Try.func66, Try.ntmps66
    go_wp2
    go_ret
    exact ⟨rfl, rfl⟩
  · have d1 : decide (n ≤ (-1125899906842624 : Int)) = false := decide_eq_false ha
    by_cases hb : 1125899906842624 ≤ n
    · have e : (gabs n : Int) = 1125899906842624 := by unfold gabs GM; rw [if_pos (by omega)]; rfl
      rw [e]
      have d2 : decide ((1125899906842624 : Int) ≤ n) = true := decide_eq_true hb
      clear e ha hb h1 h2
      go_enter Try.func66, Try.ntmps66
      go_wp2
      go_ret
      exact ⟨rfl, rfl⟩
    · have d2 : decide ((1125899906842624 : Int) ≤ n) = false := decide_eq_false hb
      obtain ⟨m, hm⟩ : ∃ m : Int, m = (gabs n : Int) := ⟨_, rfl⟩
      have e : m = (n.natAbs : Int) := by rw [hm]; unfold gabs GM; rw [if_neg (by omega)]
      rw [← hm]
      have hw : IntKind.i64.wrap (-n) = -n := by rw [IntKind.wrap_i64]; omega
      have hmax := fun (ts : Array TypeId) (t : TypeId) (w : World) => (show (Builtin.max_ ts t #[.int .i64 n, .int .i64 (-n)]).run Try.prog w = .ok (.int .i64 m) w by rw [run_max_int2]; congr 2; split <;> omega)
      have q1 : -9223372036854775807 ≤ n := by omega
      clear e ha hb h1 h2 hm
      go_enter Try.func66, Try.ntmps66
      go_wp2
      go_ret
      exact ⟨rfl, rfl⟩
def gfits (a b : Nat) : Bool := decide (a * b < GM)
set_option maxHeartbeats 400000 in
theorem gfits_any {a b : Nat} {w : World} (ha : a ≤ GM) (hb : b ≤ GM) : Calls Try.prog 67 #[.int .i64 (a : Int), .int .i64 (b : Int)] w (fun e w' => e = .returned (.bool (gfits a b)) ∧ w = w') := by
  rcases Nat.eq_zero_or_pos b with hb0 | hb0
  · subst hb0
    have e : gfits a 0 = true := by unfold gfits GM; simp
    rw [e]
    clear e ha hb
    go_enter Try.func67, Try.ntmps67
    go_wp2
    go_ret
    exact ⟨rfl, rfl⟩
  · obtain ⟨f, hf⟩ : ∃ f : Bool, f = gfits a b := ⟨_, rfl⟩
    rw [← hf]
    have d1 : ((b : Int) == 0) = false := by simp; omega
    have d1' : decide ((b : Int) = 0) = false := decide_eq_false (by omega)
    obtain ⟨q, hq⟩ : ∃ q : Nat, q = 1125899906842623 / b := ⟨_, rfl⟩
    have hqq : (1125899906842623 : Int) / (b : Int) = (q : Int) := by rw [hq]; rfl
    have d2 : decide (a ≤ q) = f := by
      rw [hf]; unfold gfits
      have : (a ≤ q) ↔ a * b < GM := by
        rw [hq, Nat.le_div_iff_mul_le hb0]
        unfold GM
        omega
      by_cases h : a ≤ q
      · rw [decide_eq_true h, decide_eq_true (this.1 h)]
      · rw [decide_eq_false h, decide_eq_false (fun h' => h (this.2 h'))]
    have hql : (q : Int) ≤ 1125899906842623 := by have := Nat.div_le_self 1125899906842623 b; omega
    have hb1 : (1 : Int) ≤ (b : Int) := by omega
    have hb2 : (b : Int) ≤ 1125899906842624 := by unfold GM at hb; omega
    have ha2 : (a : Int) ≤ 1125899906842624 := by unfold GM at ha; omega
    clear hf hq ha hb hb0
    go_enter Try.func67, Try.ntmps67
    go_wp2
    go_ret
    exact ⟨rfl, rfl⟩
def gsm (z : Gz) : Bool := decide (gsz z < GM)
theorem gabs_sum (z : Gz) : gabs z.1 + gabs z.2 < GM ↔ gsz z < GM := by
  unfold gabs gsz
  split <;> split <;> omega
/-- both parts fit an int -/
def G64 (z : Gz) : Prop := (-9223372036854775808 ≤ z.1 ∧ z.1 ≤ 9223372036854775807) ∧ (-9223372036854775808 ≤ z.2 ∧ z.2 ≤ 9223372036854775807)
theorem G64.of {z : Gz} (h : gsz z < GM) : G64 z := by unfold gsz GM at h; unfold G64; omega
abbrev gv (z : Gz) : Value := .agg #[.int .i64 z.1, .int .i64 z.2]
/-- two answers: an int and an error -/
def Two (v : Int) (er : Int) (w : World) (e : Ending) (w' : World) : Prop := e = .returned (.tuple #[.int .i64 v, .int .i64 er]) ∧ Below w.heap.size w w'
def GTwo (z : Gz) (er : Int) (w : World) (e : Ending) (w' : World) : Prop := e = .returned (.tuple #[gv z, .int .i64 er]) ∧ Below w.heap.size w w'
set_option maxHeartbeats 1000000 in
theorem gsize_yes {z : Gz} {w : World} (h : gsz z < GM) : Calls Try.prog 64 #[gv z] w (Two (gsz z : Int) 0 w) := by
  obtain ⟨x, y⟩ := z
  have hx : x.natAbs < GM := by unfold gsz at h; simp only at h; omega
  have hy : y.natAbs < GM := by unfold gsz at h; simp only at h; omega
  have C1 := Lib.hid fun (w : World) => gabs_any (n := x) (w := w) (by unfold GM at hx; omega) (by unfold GM at hx; omega)
  have C2 := Lib.hid fun (w : World) => gabs_any (n := y) (w := w) (by unfold GM at hy; omega) (by unfold GM at hy; omega)
  rw [gabs_small hx] at C1
  rw [gabs_small hy] at C2
  obtain ⟨a, ha⟩ : ∃ a : Nat, a = x.natAbs := ⟨_, rfl⟩
  obtain ⟨b, hb⟩ : ∃ b : Nat, b = y.natAbs := ⟨_, rfl⟩
  have hs : gsz (x, y) = a + b := by unfold gsz; simp only; omega
  rw [← ha] at C1
  rw [← hb] at C2
  rw [hs] at h ⊢
  have hw : IntKind.i64.wrap ((a : Int) + (b : Int)) = ((a : Int) + (b : Int)) := by rw [IntKind.wrap_i64]; unfold GM at h; omega
  have d1 : decide ((a : Int) + (b : Int) < 1125899906842624) = true := decide_eq_true (by unfold GM at h; omega)
  clear h hx hy ha hb hs
  go_enter Try.func64, Try.ntmps64
  go_wp2_with fail
  have e_f0 := (At.boxc (i := 0) (v := .int .i64 x) (t := 68) (b := w.heap.size) w #[.int .i64 x, .int .i64 y] rfl (by simp)).1
  have g_f0 := At.grow (At.boxc (i := 0) (v := .int .i64 x) (t := 68) (b := w.heap.size) w #[.int .i64 x, .int .i64 y] rfl (by simp))
  have e_f1 := (At.boxc (i := 1) (v := .int .i64 y) (t := 68) (b := w.heap.size) w #[.int .i64 x, .int .i64 y] rfl (by simp)).1
  have g_f1 := At.grow (At.boxc (i := 1) (v := .int .i64 y) (t := 68) (b := w.heap.size) w #[.int .i64 x, .int .i64 y] rfl (by simp))
  refine wp_region_grow none [(true, 0), (true, 1), (true, 3), (true, 4), (false, 2), (false, 5), (true, 6), (true, 7)] (by kernel_rfl) (by kernel_rfl) ?_
  repeat (refine ord_pas (by rfl) (fun K hK => ?_); go_simp; refine hK _ _ (fun w' hw' => (by first | (go_simp; done) | (go_simp; intro hh; cases hh))) ?_; clear hK K)
  (refine ord_call (by rfl) (fun K hK => ?_); go_simp; refine hK _ _ ?_; clear hK K)
  refine (C1.out _).mono ?_
  rintro e w' ⟨rfl, rfl⟩
  refine ⟨_, rfl, Grow.refl _ _, ?_⟩
  (refine ord_norm (fun K hK => ?_); go_simp; refine hK _ ?_; clear hK K)
  (refine ord_call (by rfl) (fun K hK => ?_); go_simp; refine hK _ _ ?_; clear hK K)
  refine (C2.out _).mono ?_
  rintro e w' ⟨rfl, rfl⟩
  refine ⟨_, rfl, Grow.refl _ _, ?_⟩
  (refine ord_norm (fun K hK => ?_); go_simp; refine hK _ ?_; clear hK K)
  repeat (refine ord_pas (by rfl) (fun K hK => ?_); go_simp; refine hK _ _ (fun w' hw' => (by first | (go_simp; done) | (go_simp; intro hh; cases hh))) ?_; clear hK K)
  refine ord_nil ?_
  clear g_f0 e_f0 g_f1 e_f1
  go_wp2
  go_ret2
  exact ⟨by simp, (bt ((Below.refl _ _).alloc (Nat.le_refl _) (.cells #[.int .i64 x, .int .i64 y] 68)) (Below.refl _ _).drew)⟩
set_option maxHeartbeats 1000000 in
theorem gsize_no {z : Gz} {w : World} (h : ¬ gsz z < GM) (hz : G64 z) : Calls Try.prog 64 #[gv z] w (Two 0 13 w) := by
  obtain ⟨x, y⟩ := z
  have C1 := Lib.hid fun (w : World) => gabs_any (n := x) (w := w) hz.1.1 hz.1.2
  have C2 := Lib.hid fun (w : World) => gabs_any (n := y) (w := w) hz.2.1 hz.2.2
  have hs : ¬ gabs x + gabs y < GM := fun h' => h ((gabs_sum (x, y)).1 h')
  have l1 := gabs_le x
  have l2 := gabs_le y
  generalize gabs x = a at *
  generalize gabs y = b at *
  have hw : IntKind.i64.wrap ((a : Int) + (b : Int)) = ((a : Int) + (b : Int)) := by rw [IntKind.wrap_i64]; unfold GM at l1 l2; omega
  have d1 : decide ((a : Int) + (b : Int) < 1125899906842624) = false := decide_eq_false (by unfold GM at hs; omega)
  clear h hz hs l1 l2
  go_enter Try.func64, Try.ntmps64
  go_wp2_with fail
  have e_f0 := (At.boxc (i := 0) (v := .int .i64 x) (t := 68) (b := w.heap.size) w #[.int .i64 x, .int .i64 y] rfl (by simp)).1
  have g_f0 := At.grow (At.boxc (i := 0) (v := .int .i64 x) (t := 68) (b := w.heap.size) w #[.int .i64 x, .int .i64 y] rfl (by simp))
  have e_f1 := (At.boxc (i := 1) (v := .int .i64 y) (t := 68) (b := w.heap.size) w #[.int .i64 x, .int .i64 y] rfl (by simp)).1
  have g_f1 := At.grow (At.boxc (i := 1) (v := .int .i64 y) (t := 68) (b := w.heap.size) w #[.int .i64 x, .int .i64 y] rfl (by simp))
  refine wp_region_grow none [(true, 0), (true, 1), (true, 3), (true, 4), (false, 2), (false, 5), (true, 6), (true, 7)] (by kernel_rfl) (by kernel_rfl) ?_
  repeat (refine ord_pas (by rfl) (fun K hK => ?_); go_simp; refine hK _ _ (fun w' hw' => (by first | (go_simp; done) | (go_simp; intro hh; cases hh))) ?_; clear hK K)
  (refine ord_call (by rfl) (fun K hK => ?_); go_simp; refine hK _ _ ?_; clear hK K)
  refine (C1.out _).mono ?_
  rintro e w' ⟨rfl, rfl⟩
  refine ⟨_, rfl, Grow.refl _ _, ?_⟩
  (refine ord_norm (fun K hK => ?_); go_simp; refine hK _ ?_; clear hK K)
  (refine ord_call (by rfl) (fun K hK => ?_); go_simp; refine hK _ _ ?_; clear hK K)
  refine (C2.out _).mono ?_
  rintro e w' ⟨rfl, rfl⟩
  refine ⟨_, rfl, Grow.refl _ _, ?_⟩
  (refine ord_norm (fun K hK => ?_); go_simp; refine hK _ ?_; clear hK K)
  repeat (refine ord_pas (by rfl) (fun K hK => ?_); go_simp; refine hK _ _ (fun w' hw' => (by first | (go_simp; done) | (go_simp; intro hh; cases hh))) ?_; clear hK K)
  refine ord_nil ?_
  clear g_f0 e_f0 g_f1 e_f1
  go_wp2
  go_ret2
  exact ⟨by simp, (bt ((Below.refl _ _).alloc (Nat.le_refl _) (.cells #[.int .i64 x, .int .i64 y] 68)) (Below.refl _ _).drew)⟩
/-- a complex number that means a Gaussian one -/
def GIn (z : Gz) (w : World) (e : Ending) (w' : World) : Prop := ∃ a b, e = .returned (.complex .f64 a b) ∧ Hid (IsC a b z) ∧ Below w.heap.size w w'
set_option maxHeartbeats 400000 in
theorem ginside_any {z : Gz} {w : World} (h : gsz z < 2 * GM) : Calls Try.prog 68 #[gv z] w (GIn z w) := by
  obtain ⟨x, y⟩ := z
  have H : Hid (IsC (floatOfInt .f64 x) (floatOfInt .f64 y) (x, y)) := ⟨IsW.int (by unfold gsz GM at h; simp only at *; omega), IsW.int (by unfold gsz GM at h; simp only at *; omega)⟩
  have c1 := fun (w : World) => run_convert_int_float (P := Try.prog) w 3 108 .i64 .f64 x (by rw [Try.underlying3]; rfl) Try.underlying108
  have c2 := fun (w : World) => run_convert_int_float (P := Try.prog) w 3 108 .i64 .f64 y (by rw [Try.underlying3]; rfl) Try.underlying108
  generalize floatOfInt .f64 x = a at *
  generalize floatOfInt .f64 y = b at *
  clear h
  go_enter Try.func68, Try.ntmps68
  go_wp2_with (simp only [c1, c2])
  go_ret
  exact ⟨a, b, by simp, H, ((Below.refl _ _).alloc (Nat.le_refl _) (.cells #[.int .i64 x, .int .i64 y] 68))⟩
set_option maxHeartbeats 400000 in
theorem goutside_any {a b : Nat} {z : Gz} {w : World} (h : IsC a b z) (hz : G64 z) : Calls Try.prog 69 #[.complex .f64 a b] w (Keeps (gv z) w) := by
  obtain ⟨x, y⟩ := z
  have c1 := fun (w : World) => run_convert_float_int (P := Try.prog) w 108 3 .f64 .i64 a x (by rw [Try.underlying108]; rfl) Try.underlying3 (h.1.toInt hz.1.1 hz.1.2)
  have c2 := fun (w : World) => run_convert_float_int (P := Try.prog) w 108 3 .f64 .i64 b y (by rw [Try.underlying108]; rfl) Try.underlying3 (h.2.toInt hz.2.1 hz.2.2)
  clear h hz
  go_enter Try.func69, Try.ntmps69
  go_wp2_with (simp only [c1, c2])
  refine bodyPost_ret (v := gv (x, y)) (by simp [results, Try.results69, go_sem]) rfl ?_
  exact ⟨rfl, belowA _ _⟩
theorem gadd_val (x1 y1 x2 y2 : Int) : gadd (x1, y1) (x2, y2) = (x1 + x2, y1 + y2) := rfl
set_option maxHeartbeats 2000000 in
theorem gadd_yes {x y : Gz} {w : World} (hx : gsz x < GM) (hy : gsz y < GM) (hs : gsz x + gsz y < GM) : Calls Try.prog 70 #[gv x, gv y] w (GTwo (gadd x y) 0 w) := by
  have C1 := Lib.hid fun (w : World) => gsize_yes (w := w) hx
  have C2 := Lib.hid fun (w : World) => gsize_yes (w := w) hy
  have HZ : Hid (gsz (gadd x y) < GM) := by have := gsz_add x y; show _ < _; omega
  have hw : IntKind.i64.wrap ((gsz x : Int) + (gsz y : Int)) = ((gsz x : Int) + (gsz y : Int)) := by rw [IntKind.wrap_i64]; unfold GM at hs; omega
  have d1 : decide ((1125899906842624 : Int) ≤ (gsz x : Int) + (gsz y : Int)) = false := decide_eq_false (by unfold GM at hs; omega)
  have HX : gsz x < 2 * GM := by omega
  have HY : gsz y < 2 * GM := by omega
  have HW : Hid ((x.1 + y.1).natAbs < 2 ^ 53 ∧ (x.2 + y.2).natAbs < 2 ^ 53) := by
    have := gsz_add x y; unfold gsz gadd GM at *; simp only at *; show _ ∧ _; omega
  clear hs hx hy
  generalize gsz x = sx at hw d1 C1
  generalize gsz y = sy at hw d1 C2
  obtain ⟨x1, y1⟩ := x
  obtain ⟨x2, y2⟩ := y
  go_enter Try.func70, Try.ntmps70
  have e0 := (((At.boxc (i := 0) (v := .int .i64 x1) (t := 68) (b := w.heap.size) w #[.int .i64 x1, .int .i64 y1] rfl (by simp)).below ((Below.refl _ _).alloc (Nat.le_refl _) (.cells #[.int .i64 x2, .int .i64 y2] 68))).below ((Below.refl _ _).alloc (Nat.le_refl _) (.cells #[.int .i64 0, .int .i64 0] 68))).1
  have e1 := (((At.boxc (i := 1) (v := .int .i64 y1) (t := 68) (b := w.heap.size) w #[.int .i64 x1, .int .i64 y1] rfl (by simp)).below ((Below.refl _ _).alloc (Nat.le_refl _) (.cells #[.int .i64 x2, .int .i64 y2] 68))).below ((Below.refl _ _).alloc (Nat.le_refl _) (.cells #[.int .i64 0, .int .i64 0] 68))).1
  go_wp2_with fail
  refine (C1.out _).mono ?_
  rintro e w1 ⟨rfl, hb1⟩
  clear e0 e1
  have e0 := (((At.boxc (i := 0) (v := .int .i64 x2) (t := 68) (b := w.heap.size + 1) (World.alloc w (.cells #[.int .i64 x1, .int .i64 y1] 68)) #[.int .i64 x2, .int .i64 y2] rfl (by simp)).below ((Below.refl _ _).alloc (Nat.le_refl _) (.cells #[.int .i64 0, .int .i64 0] 68))).below hb1).1
  have e1 := (((At.boxc (i := 1) (v := .int .i64 y2) (t := 68) (b := w.heap.size + 1) (World.alloc w (.cells #[.int .i64 x1, .int .i64 y1] 68)) #[.int .i64 x2, .int .i64 y2] rfl (by simp)).below ((Below.refl _ _).alloc (Nat.le_refl _) (.cells #[.int .i64 0, .int .i64 0] 68))).below hb1).1
  go_wp2_with fail
  refine (C2.out _).mono ?_
  rintro e w2 ⟨rfl, hb2⟩
  clear e0 e1
  clear C1 C2
  go_wp2_with fail
  have e_f0 := (((((At.boxc (i := 0) (v := .int .i64 x1) (t := 68) (b := w.heap.size) w #[.int .i64 x1, .int .i64 y1] rfl (by simp)).below ((Below.refl _ _).alloc (Nat.le_refl _) (.cells #[.int .i64 x2, .int .i64 y2] 68))).below ((Below.refl _ _).alloc (Nat.le_refl _) (.cells #[.int .i64 0, .int .i64 0] 68))).below hb1).below hb2).1
  have g_f0 := At.growS (b := (w.heap.size + 1 + 1)) (((((At.boxc (i := 0) (v := .int .i64 x1) (t := 68) (b := w.heap.size) w #[.int .i64 x1, .int .i64 y1] rfl (by simp)).below ((Below.refl _ _).alloc (Nat.le_refl _) (.cells #[.int .i64 x2, .int .i64 y2] 68))).below ((Below.refl _ _).alloc (Nat.le_refl _) (.cells #[.int .i64 0, .int .i64 0] 68))).below hb1).below hb2) (by simp <;> omega)
  have e_f1 := (((((At.boxc (i := 1) (v := .int .i64 y1) (t := 68) (b := w.heap.size) w #[.int .i64 x1, .int .i64 y1] rfl (by simp)).below ((Below.refl _ _).alloc (Nat.le_refl _) (.cells #[.int .i64 x2, .int .i64 y2] 68))).below ((Below.refl _ _).alloc (Nat.le_refl _) (.cells #[.int .i64 0, .int .i64 0] 68))).below hb1).below hb2).1
  have g_f1 := At.growS (b := (w.heap.size + 1 + 1)) (((((At.boxc (i := 1) (v := .int .i64 y1) (t := 68) (b := w.heap.size) w #[.int .i64 x1, .int .i64 y1] rfl (by simp)).below ((Below.refl _ _).alloc (Nat.le_refl _) (.cells #[.int .i64 x2, .int .i64 y2] 68))).below ((Below.refl _ _).alloc (Nat.le_refl _) (.cells #[.int .i64 0, .int .i64 0] 68))).below hb1).below hb2) (by simp <;> omega)
  have e_g0 := ((((At.boxc (i := 0) (v := .int .i64 x2) (t := 68) (b := w.heap.size + 1) (World.alloc w (.cells #[.int .i64 x1, .int .i64 y1] 68)) #[.int .i64 x2, .int .i64 y2] rfl (by simp)).below ((Below.refl _ _).alloc (Nat.le_refl _) (.cells #[.int .i64 0, .int .i64 0] 68))).below hb1).below hb2).1
  have g_g0 := At.growS (b := (w.heap.size + 1 + 1)) ((((At.boxc (i := 0) (v := .int .i64 x2) (t := 68) (b := w.heap.size + 1) (World.alloc w (.cells #[.int .i64 x1, .int .i64 y1] 68)) #[.int .i64 x2, .int .i64 y2] rfl (by simp)).below ((Below.refl _ _).alloc (Nat.le_refl _) (.cells #[.int .i64 0, .int .i64 0] 68))).below hb1).below hb2) (by simp <;> omega)
  have e_g1 := ((((At.boxc (i := 1) (v := .int .i64 y2) (t := 68) (b := w.heap.size + 1) (World.alloc w (.cells #[.int .i64 x1, .int .i64 y1] 68)) #[.int .i64 x2, .int .i64 y2] rfl (by simp)).below ((Below.refl _ _).alloc (Nat.le_refl _) (.cells #[.int .i64 0, .int .i64 0] 68))).below hb1).below hb2).1
  have g_g1 := At.growS (b := (w.heap.size + 1 + 1)) ((((At.boxc (i := 1) (v := .int .i64 y2) (t := 68) (b := w.heap.size + 1) (World.alloc w (.cells #[.int .i64 x1, .int .i64 y1] 68)) #[.int .i64 x2, .int .i64 y2] rfl (by simp)).below ((Below.refl _ _).alloc (Nat.le_refl _) (.cells #[.int .i64 0, .int .i64 0] 68))).below hb1).below hb2) (by simp <;> omega)
  refine wp_region_grow (some (w.heap.size + 1 + 1)) [(true, 0), (true, 2), (false, 1), (false, 3), (true, 4), (false, 5), (false, 6), (true, 7)] (by kernel_rfl) (by kernel_rfl) ?_
  repeat (refine ord_pas (by rfl) (fun K hK => ?_); go_simp; refine hK _ _ (fun w' hw' => (by first | (go_simp; done) | (go_simp; intro hh; cases hh))) ?_; clear hK K)
  (refine ord_call (by rfl) (fun K hK => ?_); go_simp; refine hK _ _ ?_; clear hK K)
  refine (ginside_any HX).mono ?_
  rintro e wp1 ⟨a_1, b_1, rfl, hc_1, hp1⟩
  refine ⟨_, rfl, (Grow.of_below hp1), ?_⟩
  (refine ord_norm (fun K hK => ?_); go_simp; refine hK _ ?_; clear hK K)
  repeat (refine ord_pas (by rfl) (fun K hK => ?_); go_simp; refine hK _ _ (fun w' hw' => (by first | (go_simp; done) | (go_simp; intro hh; cases hh))) ?_; clear hK K)
  (refine ord_call (by rfl) (fun K hK => ?_); go_simp; refine hK _ _ ?_; clear hK K)
  refine (ginside_any HY).mono ?_
  rintro e wp2 ⟨a_2, b_2, rfl, hc_2, hp2⟩
  refine ⟨_, rfl, (Grow.of_below hp2), ?_⟩
  (refine ord_norm (fun K hK => ?_); go_simp; refine hK _ ?_; clear hK K)
  obtain ⟨re, im, hop0, HC⟩ := IsC.sum hc_1.out hc_2.out HW.out.1 HW.out.2
  have hop := fun t w => run_complex_sum (P := Try.prog) w .add (Or.inl rfl) t .f64 a_1 b_1 a_2 b_2 re im hop0
  clear hop0
  repeat (refine ord_pas (by rfl) (fun K hK => ?_); go_simp; refine hK _ _ (fun w' hw' => (by first | (go_simp; done) | (go_simp; intro hh; cases hh))) ?_; clear hK K)
  clear hop
  (refine ord_call (by rfl) (fun K hK => ?_); go_simp; refine hK _ _ ?_; clear hK K)
  refine (goutside_any HC (G64.of HZ.out)).mono ?_
  rintro e wp3 ⟨rfl, hp3⟩
  refine ⟨_, rfl, (Grow.of_below hp3), ?_⟩
  (refine ord_norm (fun K hK => ?_); go_simp; refine hK _ ?_; clear hK K)
  repeat (refine ord_pas (by rfl) (fun K hK => ?_); go_simp; refine hK _ _ (fun w' hw' => (by first | (go_simp; done) | (go_simp; intro hh; cases hh))) ?_; clear hK K)
  have c1 := (((((((Cel.box (i := 0) (v := .int .i64 0) (t := 68) (b := w.heap.size + 1 + 1) (World.alloc (World.alloc w (.cells #[.int .i64 x1, .int .i64 y1] 68)) (.cells #[.int .i64 x2, .int .i64 y2] 68)) #[.int .i64 0, .int .i64 0] rfl (by simp)).below hb1).below hb2).below (Below.refl _ _).drew).below hp1).below hp2).below hp3)
  have c2 := (((((((Cel.box (i := 1) (v := .int .i64 0) (t := 68) (b := w.heap.size + 1 + 1) (World.alloc (World.alloc w (.cells #[.int .i64 x1, .int .i64 y1] 68)) (.cells #[.int .i64 x2, .int .i64 y2] 68)) #[.int .i64 0, .int .i64 0] rfl (by simp)).below hb1).below hb2).below (Below.refl _ _).drew).below hp1).below hp2).below hp3)
  obtain ⟨c1a, c1b, c1c⟩ := c1
  obtain ⟨c2a, c2b, c2c⟩ := c2
  (refine ord_act (by rfl) (fun K hK => ?_); go_simp)
  refine hK _ _ ⟨Grow.trans _ _ _ _ (Grow.set rfl _) (Grow.set rfl _), ?_⟩
  clear hK K
  repeat (refine ord_pas (by rfl) (fun K hK => ?_); go_simp; refine hK _ _ (fun w' hw' => (by first | (go_simp; done) | (go_simp; intro hh; cases hh))) ?_; clear hK K)
  refine ord_nil ?_
  clear g_f0 e_f0 g_f1 e_f1 g_g0 e_g0 g_g1 e_g1
  have HB := Lib.hid (bt (bt (bt (bt (bt (bt (bt (bt ((Below.refl _ _).alloc (Nat.le_refl _) (.cells #[.int .i64 x1, .int .i64 y1] 68)) ((Below.refl _ _).alloc (Nat.le_refl _) (.cells #[.int .i64 x2, .int .i64 y2] 68))) ((Below.refl _ _).alloc (Nat.le_refl _) (.cells #[.int .i64 0, .int .i64 0] 68))) hb1) hb2) (Below.refl _ _).drew) hp1) hp2) hp3)
  go_wp2
  refine bodyPost_ret (v := .tuple #[gv (x1 + x2, y1 + y2), .int .i64 0]) (by simp [results, Try.results70, go_sem, c1a, c2a]) rfl ?_
  exact ⟨rfl, below_cells2 HB.out (by omega)⟩
set_option maxHeartbeats 2000000 in
theorem gadd_no {x y : Gz} {w : World} (hx : gsz x < GM) (hy : gsz y < GM) (hs : ¬ gsz x + gsz y < GM) : Calls Try.prog 70 #[gv x, gv y] w (GTwo (0, 0) 13 w) := by
  have C1 := Lib.hid fun (w : World) => gsize_yes (w := w) hx
  have C2 := Lib.hid fun (w : World) => gsize_yes (w := w) hy
  have hw : IntKind.i64.wrap ((gsz x : Int) + (gsz y : Int)) = ((gsz x : Int) + (gsz y : Int)) := by rw [IntKind.wrap_i64]; unfold GM at hx hy; omega
  have d1 : decide ((1125899906842624 : Int) ≤ (gsz x : Int) + (gsz y : Int)) = true := decide_eq_true (by unfold GM at hs; omega)
  clear hs hx hy
  generalize gsz x = sx at hw d1 C1
  generalize gsz y = sy at hw d1 C2
  obtain ⟨x1, y1⟩ := x
  obtain ⟨x2, y2⟩ := y
  go_enter Try.func70, Try.ntmps70
  have e0 := (((At.boxc (i := 0) (v := .int .i64 x1) (t := 68) (b := w.heap.size) w #[.int .i64 x1, .int .i64 y1] rfl (by simp)).below ((Below.refl _ _).alloc (Nat.le_refl _) (.cells #[.int .i64 x2, .int .i64 y2] 68))).below ((Below.refl _ _).alloc (Nat.le_refl _) (.cells #[.int .i64 0, .int .i64 0] 68))).1
  have e1 := (((At.boxc (i := 1) (v := .int .i64 y1) (t := 68) (b := w.heap.size) w #[.int .i64 x1, .int .i64 y1] rfl (by simp)).below ((Below.refl _ _).alloc (Nat.le_refl _) (.cells #[.int .i64 x2, .int .i64 y2] 68))).below ((Below.refl _ _).alloc (Nat.le_refl _) (.cells #[.int .i64 0, .int .i64 0] 68))).1
  go_wp2_with fail
  refine (C1.out _).mono ?_
  rintro e w1 ⟨rfl, hb1⟩
  clear e0 e1
  have e0 := (((At.boxc (i := 0) (v := .int .i64 x2) (t := 68) (b := w.heap.size + 1) (World.alloc w (.cells #[.int .i64 x1, .int .i64 y1] 68)) #[.int .i64 x2, .int .i64 y2] rfl (by simp)).below ((Below.refl _ _).alloc (Nat.le_refl _) (.cells #[.int .i64 0, .int .i64 0] 68))).below hb1).1
  have e1 := (((At.boxc (i := 1) (v := .int .i64 y2) (t := 68) (b := w.heap.size + 1) (World.alloc w (.cells #[.int .i64 x1, .int .i64 y1] 68)) #[.int .i64 x2, .int .i64 y2] rfl (by simp)).below ((Below.refl _ _).alloc (Nat.le_refl _) (.cells #[.int .i64 0, .int .i64 0] 68))).below hb1).1
  go_wp2_with fail
  refine (C2.out _).mono ?_
  rintro e w2 ⟨rfl, hb2⟩
  clear e0 e1
  clear C1 C2
  have c1 := (((Cel.box (i := 0) (v := .int .i64 0) (t := 68) (b := w.heap.size + 1 + 1) (World.alloc (World.alloc w (.cells #[.int .i64 x1, .int .i64 y1] 68)) (.cells #[.int .i64 x2, .int .i64 y2] 68)) #[.int .i64 0, .int .i64 0] rfl (by simp)).below hb1).below hb2)
  have c2 := (((Cel.box (i := 1) (v := .int .i64 0) (t := 68) (b := w.heap.size + 1 + 1) (World.alloc (World.alloc w (.cells #[.int .i64 x1, .int .i64 y1] 68)) (.cells #[.int .i64 x2, .int .i64 y2] 68)) #[.int .i64 0, .int .i64 0] rfl (by simp)).below hb1).below hb2)
  obtain ⟨c1a, c1b, c1c⟩ := c1
  obtain ⟨c2a, c2b, c2c⟩ := c2
  have HB := Lib.hid (bt (bt (bt (bt ((Below.refl _ _).alloc (Nat.le_refl _) (.cells #[.int .i64 x1, .int .i64 y1] 68)) ((Below.refl _ _).alloc (Nat.le_refl _) (.cells #[.int .i64 x2, .int .i64 y2] 68))) ((Below.refl _ _).alloc (Nat.le_refl _) (.cells #[.int .i64 0, .int .i64 0] 68))) hb1) hb2)
  go_wp2
  refine bodyPost_ret (v := .tuple #[gv (0, 0), .int .i64 13]) (by simp [results, Try.results70, go_sem, c1a, c2a]) rfl ?_
  exact ⟨rfl, below_cells2 HB.out (by omega)⟩
set_option maxHeartbeats 2000000 in
theorem gmul_yes {x y : Gz} {w : World} (hx : gsz x < GM) (hy : gsz y < GM) (hs : gfits (gsz x) (gsz y) = true) : Calls Try.prog 71 #[gv x, gv y] w (GTwo (gmul x y) 0 w) := by
  have C1 := Lib.hid fun (w : World) => gsize_yes (w := w) hx
  have C2 := Lib.hid fun (w : World) => gsize_yes (w := w) hy
  have C3 := Lib.hid fun (w : World) => gfits_any (a := gsz x) (b := gsz y) (w := w) (by omega) (by omega)
  rw [hs] at C3
  have hs' : gsz x * gsz y < GM := of_decide_eq_true hs
  have HZ : Hid (gsz (gmul x y) < GM) := by have := gsz_mul x y; show _ < _; omega
  have HX : gsz x < 2 * GM := by omega
  have HY : gsz y < 2 * GM := by omega
  have HW : Hid (((x.1 * y.1).natAbs + (x.2 * y.2).natAbs < 2 ^ 53) ∧ (x.1 * y.2).natAbs + (x.2 * y.1).natAbs < 2 ^ 53) := by
    have := gmul_parts x y; unfold GM at hs'; show _ ∧ _; omega
  clear hs hx hy hs'
  generalize gsz x = sx at C1 C3
  generalize gsz y = sy at C2 C3
  obtain ⟨x1, y1⟩ := x
  obtain ⟨x2, y2⟩ := y
  go_enter Try.func71, Try.ntmps71
  have e0 := (((At.boxc (i := 0) (v := .int .i64 x1) (t := 68) (b := w.heap.size) w #[.int .i64 x1, .int .i64 y1] rfl (by simp)).below ((Below.refl _ _).alloc (Nat.le_refl _) (.cells #[.int .i64 x2, .int .i64 y2] 68))).below ((Below.refl _ _).alloc (Nat.le_refl _) (.cells #[.int .i64 0, .int .i64 0] 68))).1
  have e1 := (((At.boxc (i := 1) (v := .int .i64 y1) (t := 68) (b := w.heap.size) w #[.int .i64 x1, .int .i64 y1] rfl (by simp)).below ((Below.refl _ _).alloc (Nat.le_refl _) (.cells #[.int .i64 x2, .int .i64 y2] 68))).below ((Below.refl _ _).alloc (Nat.le_refl _) (.cells #[.int .i64 0, .int .i64 0] 68))).1
  go_wp2_with fail
  refine (C1.out _).mono ?_
  rintro e w1 ⟨rfl, hb1⟩
  clear e0 e1
  have e0 := (((At.boxc (i := 0) (v := .int .i64 x2) (t := 68) (b := w.heap.size + 1) (World.alloc w (.cells #[.int .i64 x1, .int .i64 y1] 68)) #[.int .i64 x2, .int .i64 y2] rfl (by simp)).below ((Below.refl _ _).alloc (Nat.le_refl _) (.cells #[.int .i64 0, .int .i64 0] 68))).below hb1).1
  have e1 := (((At.boxc (i := 1) (v := .int .i64 y2) (t := 68) (b := w.heap.size + 1) (World.alloc w (.cells #[.int .i64 x1, .int .i64 y1] 68)) #[.int .i64 x2, .int .i64 y2] rfl (by simp)).below ((Below.refl _ _).alloc (Nat.le_refl _) (.cells #[.int .i64 0, .int .i64 0] 68))).below hb1).1
  go_wp2_with fail
  refine (C2.out _).mono ?_
  rintro e w2 ⟨rfl, hb2⟩
  clear e0 e1
  go_wp2_with fail
  refine (C3.out _).mono ?_
  rintro e w' ⟨rfl, rfl⟩
  clear C1 C2 C3
  go_wp2_with fail
  have e_f0 := (((((At.boxc (i := 0) (v := .int .i64 x1) (t := 68) (b := w.heap.size) w #[.int .i64 x1, .int .i64 y1] rfl (by simp)).below ((Below.refl _ _).alloc (Nat.le_refl _) (.cells #[.int .i64 x2, .int .i64 y2] 68))).below ((Below.refl _ _).alloc (Nat.le_refl _) (.cells #[.int .i64 0, .int .i64 0] 68))).below hb1).below hb2).1
  have g_f0 := At.growS (b := (w.heap.size + 1 + 1)) (((((At.boxc (i := 0) (v := .int .i64 x1) (t := 68) (b := w.heap.size) w #[.int .i64 x1, .int .i64 y1] rfl (by simp)).below ((Below.refl _ _).alloc (Nat.le_refl _) (.cells #[.int .i64 x2, .int .i64 y2] 68))).below ((Below.refl _ _).alloc (Nat.le_refl _) (.cells #[.int .i64 0, .int .i64 0] 68))).below hb1).below hb2) (by simp <;> omega)
  have e_f1 := (((((At.boxc (i := 1) (v := .int .i64 y1) (t := 68) (b := w.heap.size) w #[.int .i64 x1, .int .i64 y1] rfl (by simp)).below ((Below.refl _ _).alloc (Nat.le_refl _) (.cells #[.int .i64 x2, .int .i64 y2] 68))).below ((Below.refl _ _).alloc (Nat.le_refl _) (.cells #[.int .i64 0, .int .i64 0] 68))).below hb1).below hb2).1
  have g_f1 := At.growS (b := (w.heap.size + 1 + 1)) (((((At.boxc (i := 1) (v := .int .i64 y1) (t := 68) (b := w.heap.size) w #[.int .i64 x1, .int .i64 y1] rfl (by simp)).below ((Below.refl _ _).alloc (Nat.le_refl _) (.cells #[.int .i64 x2, .int .i64 y2] 68))).below ((Below.refl _ _).alloc (Nat.le_refl _) (.cells #[.int .i64 0, .int .i64 0] 68))).below hb1).below hb2) (by simp <;> omega)
  have e_g0 := ((((At.boxc (i := 0) (v := .int .i64 x2) (t := 68) (b := w.heap.size + 1) (World.alloc w (.cells #[.int .i64 x1, .int .i64 y1] 68)) #[.int .i64 x2, .int .i64 y2] rfl (by simp)).below ((Below.refl _ _).alloc (Nat.le_refl _) (.cells #[.int .i64 0, .int .i64 0] 68))).below hb1).below hb2).1
  have g_g0 := At.growS (b := (w.heap.size + 1 + 1)) ((((At.boxc (i := 0) (v := .int .i64 x2) (t := 68) (b := w.heap.size + 1) (World.alloc w (.cells #[.int .i64 x1, .int .i64 y1] 68)) #[.int .i64 x2, .int .i64 y2] rfl (by simp)).below ((Below.refl _ _).alloc (Nat.le_refl _) (.cells #[.int .i64 0, .int .i64 0] 68))).below hb1).below hb2) (by simp <;> omega)
  have e_g1 := ((((At.boxc (i := 1) (v := .int .i64 y2) (t := 68) (b := w.heap.size + 1) (World.alloc w (.cells #[.int .i64 x1, .int .i64 y1] 68)) #[.int .i64 x2, .int .i64 y2] rfl (by simp)).below ((Below.refl _ _).alloc (Nat.le_refl _) (.cells #[.int .i64 0, .int .i64 0] 68))).below hb1).below hb2).1
  have g_g1 := At.growS (b := (w.heap.size + 1 + 1)) ((((At.boxc (i := 1) (v := .int .i64 y2) (t := 68) (b := w.heap.size + 1) (World.alloc w (.cells #[.int .i64 x1, .int .i64 y1] 68)) #[.int .i64 x2, .int .i64 y2] rfl (by simp)).below ((Below.refl _ _).alloc (Nat.le_refl _) (.cells #[.int .i64 0, .int .i64 0] 68))).below hb1).below hb2) (by simp <;> omega)
  refine wp_region_grow (some (w.heap.size + 1 + 1)) [(true, 0), (true, 2), (false, 1), (false, 3), (true, 4), (false, 5), (false, 6), (true, 7)] (by kernel_rfl) (by kernel_rfl) ?_
  repeat (refine ord_pas (by rfl) (fun K hK => ?_); go_simp; refine hK _ _ (fun w' hw' => (by first | (go_simp; done) | (go_simp; intro hh; cases hh))) ?_; clear hK K)
  (refine ord_call (by rfl) (fun K hK => ?_); go_simp; refine hK _ _ ?_; clear hK K)
  refine (ginside_any HX).mono ?_
  rintro e wp1 ⟨a_1, b_1, rfl, hc_1, hp1⟩
  refine ⟨_, rfl, (Grow.of_below hp1), ?_⟩
  (refine ord_norm (fun K hK => ?_); go_simp; refine hK _ ?_; clear hK K)
  repeat (refine ord_pas (by rfl) (fun K hK => ?_); go_simp; refine hK _ _ (fun w' hw' => (by first | (go_simp; done) | (go_simp; intro hh; cases hh))) ?_; clear hK K)
  (refine ord_call (by rfl) (fun K hK => ?_); go_simp; refine hK _ _ ?_; clear hK K)
  refine (ginside_any HY).mono ?_
  rintro e wp2 ⟨a_2, b_2, rfl, hc_2, hp2⟩
  refine ⟨_, rfl, (Grow.of_below hp2), ?_⟩
  (refine ord_norm (fun K hK => ?_); go_simp; refine hK _ ?_; clear hK K)
  obtain ⟨re, im, hop0, HC⟩ := IsC.prod hc_1.out hc_2.out HW.out.1 HW.out.2
  have hop := fun t w => run_complex_mul (P := Try.prog) w t a_1 b_1 a_2 b_2 re im hop0
  clear hop0
  repeat (refine ord_pas (by rfl) (fun K hK => ?_); go_simp; refine hK _ _ (fun w' hw' => (by first | (go_simp; done) | (go_simp; intro hh; cases hh))) ?_; clear hK K)
  clear hop
  (refine ord_call (by rfl) (fun K hK => ?_); go_simp; refine hK _ _ ?_; clear hK K)
  refine (goutside_any HC (G64.of HZ.out)).mono ?_
  rintro e wp3 ⟨rfl, hp3⟩
  refine ⟨_, rfl, (Grow.of_below hp3), ?_⟩
  (refine ord_norm (fun K hK => ?_); go_simp; refine hK _ ?_; clear hK K)
  repeat (refine ord_pas (by rfl) (fun K hK => ?_); go_simp; refine hK _ _ (fun w' hw' => (by first | (go_simp; done) | (go_simp; intro hh; cases hh))) ?_; clear hK K)
  have c1 := (((((((Cel.box (i := 0) (v := .int .i64 0) (t := 68) (b := w.heap.size + 1 + 1) (World.alloc (World.alloc w (.cells #[.int .i64 x1, .int .i64 y1] 68)) (.cells #[.int .i64 x2, .int .i64 y2] 68)) #[.int .i64 0, .int .i64 0] rfl (by simp)).below hb1).below hb2).below (Below.refl _ _).drew).below hp1).below hp2).below hp3)
  have c2 := (((((((Cel.box (i := 1) (v := .int .i64 0) (t := 68) (b := w.heap.size + 1 + 1) (World.alloc (World.alloc w (.cells #[.int .i64 x1, .int .i64 y1] 68)) (.cells #[.int .i64 x2, .int .i64 y2] 68)) #[.int .i64 0, .int .i64 0] rfl (by simp)).below hb1).below hb2).below (Below.refl _ _).drew).below hp1).below hp2).below hp3)
  obtain ⟨c1a, c1b, c1c⟩ := c1
  obtain ⟨c2a, c2b, c2c⟩ := c2
  (refine ord_act (by rfl) (fun K hK => ?_); go_simp)
  refine hK _ _ ⟨Grow.trans _ _ _ _ (Grow.set rfl _) (Grow.set rfl _), ?_⟩
  clear hK K
  repeat (refine ord_pas (by rfl) (fun K hK => ?_); go_simp; refine hK _ _ (fun w' hw' => (by first | (go_simp; done) | (go_simp; intro hh; cases hh))) ?_; clear hK K)
  refine ord_nil ?_
  clear g_f0 e_f0 g_f1 e_f1 g_g0 e_g0 g_g1 e_g1
  have HB := Lib.hid (bt (bt (bt (bt (bt (bt (bt (bt ((Below.refl _ _).alloc (Nat.le_refl _) (.cells #[.int .i64 x1, .int .i64 y1] 68)) ((Below.refl _ _).alloc (Nat.le_refl _) (.cells #[.int .i64 x2, .int .i64 y2] 68))) ((Below.refl _ _).alloc (Nat.le_refl _) (.cells #[.int .i64 0, .int .i64 0] 68))) hb1) hb2) (Below.refl _ _).drew) hp1) hp2) hp3)
  go_wp2
  refine bodyPost_ret (v := .tuple #[gv (x1 * x2 - y1 * y2, x1 * y2 + y1 * x2), .int .i64 0]) (by simp [results, Try.results71, go_sem, c1a, c2a]) rfl ?_
  exact ⟨rfl, below_cells2 HB.out (by omega)⟩
set_option maxHeartbeats 2000000 in
theorem gmul_no {x y : Gz} {w : World} (hx : gsz x < GM) (hy : gsz y < GM) (hs : gfits (gsz x) (gsz y) = false) : Calls Try.prog 71 #[gv x, gv y] w (GTwo (0, 0) 13 w) := by
  have C1 := Lib.hid fun (w : World) => gsize_yes (w := w) hx
  have C2 := Lib.hid fun (w : World) => gsize_yes (w := w) hy
  have C3 := Lib.hid fun (w : World) => gfits_any (a := gsz x) (b := gsz y) (w := w) (by omega) (by omega)
  rw [hs] at C3
  clear hs hx hy
  generalize gsz x = sx at C1 C3
  generalize gsz y = sy at C2 C3
  obtain ⟨x1, y1⟩ := x
  obtain ⟨x2, y2⟩ := y
  go_enter Try.func71, Try.ntmps71
  have e0 := (((At.boxc (i := 0) (v := .int .i64 x1) (t := 68) (b := w.heap.size) w #[.int .i64 x1, .int .i64 y1] rfl (by simp)).below ((Below.refl _ _).alloc (Nat.le_refl _) (.cells #[.int .i64 x2, .int .i64 y2] 68))).below ((Below.refl _ _).alloc (Nat.le_refl _) (.cells #[.int .i64 0, .int .i64 0] 68))).1
  have e1 := (((At.boxc (i := 1) (v := .int .i64 y1) (t := 68) (b := w.heap.size) w #[.int .i64 x1, .int .i64 y1] rfl (by simp)).below ((Below.refl _ _).alloc (Nat.le_refl _) (.cells #[.int .i64 x2, .int .i64 y2] 68))).below ((Below.refl _ _).alloc (Nat.le_refl _) (.cells #[.int .i64 0, .int .i64 0] 68))).1
  go_wp2_with fail
  refine (C1.out _).mono ?_
  rintro e w1 ⟨rfl, hb1⟩
  clear e0 e1
  have e0 := (((At.boxc (i := 0) (v := .int .i64 x2) (t := 68) (b := w.heap.size + 1) (World.alloc w (.cells #[.int .i64 x1, .int .i64 y1] 68)) #[.int .i64 x2, .int .i64 y2] rfl (by simp)).below ((Below.refl _ _).alloc (Nat.le_refl _) (.cells #[.int .i64 0, .int .i64 0] 68))).below hb1).1
  have e1 := (((At.boxc (i := 1) (v := .int .i64 y2) (t := 68) (b := w.heap.size + 1) (World.alloc w (.cells #[.int .i64 x1, .int .i64 y1] 68)) #[.int .i64 x2, .int .i64 y2] rfl (by simp)).below ((Below.refl _ _).alloc (Nat.le_refl _) (.cells #[.int .i64 0, .int .i64 0] 68))).below hb1).1
  go_wp2_with fail
  refine (C2.out _).mono ?_
  rintro e w2 ⟨rfl, hb2⟩
  clear e0 e1
  go_wp2_with fail
  refine (C3.out _).mono ?_
  rintro e w' ⟨rfl, rfl⟩
  clear C1 C2 C3
  have c1 := (((Cel.box (i := 0) (v := .int .i64 0) (t := 68) (b := w.heap.size + 1 + 1) (World.alloc (World.alloc w (.cells #[.int .i64 x1, .int .i64 y1] 68)) (.cells #[.int .i64 x2, .int .i64 y2] 68)) #[.int .i64 0, .int .i64 0] rfl (by simp)).below hb1).below hb2)
  have c2 := (((Cel.box (i := 1) (v := .int .i64 0) (t := 68) (b := w.heap.size + 1 + 1) (World.alloc (World.alloc w (.cells #[.int .i64 x1, .int .i64 y1] 68)) (.cells #[.int .i64 x2, .int .i64 y2] 68)) #[.int .i64 0, .int .i64 0] rfl (by simp)).below hb1).below hb2)
  obtain ⟨c1a, c1b, c1c⟩ := c1
  obtain ⟨c2a, c2b, c2c⟩ := c2
  have HB := Lib.hid (bt (bt (bt (bt ((Below.refl _ _).alloc (Nat.le_refl _) (.cells #[.int .i64 x1, .int .i64 y1] 68)) ((Below.refl _ _).alloc (Nat.le_refl _) (.cells #[.int .i64 x2, .int .i64 y2] 68))) ((Below.refl _ _).alloc (Nat.le_refl _) (.cells #[.int .i64 0, .int .i64 0] 68))) hb1) hb2)
  go_wp2
  refine bodyPost_ret (v := .tuple #[gv (0, 0), .int .i64 13]) (by simp [results, Try.results71, go_sem, c1a, c2a]) rfl ?_
  exact ⟨rfl, below_cells2 HB.out (by omega)⟩
set_option maxHeartbeats 2000000 in
theorem gconj_yes {x : Gz} {w : World} (hx : gsz x < GM) : Calls Try.prog 72 #[gv x] w (GTwo (gcj x) 0 w) := by
  have C1 := Lib.hid fun (w : World) => gsize_yes (w := w) hx
  have h64 : -1125899906842624 < x.2 ∧ x.2 < 1125899906842624 := by unfold gsz GM at hx; omega
  clear hx
  generalize gsz x = sx at C1
  obtain ⟨x1, y1⟩ := x
  simp only at h64
  obtain ⟨h1, h2⟩ := h64
  have hw : IntKind.i64.wrap (-y1) = -y1 := by rw [IntKind.wrap_i64]; omega
  go_enter Try.func72, Try.ntmps72
  have e0 := ((At.boxc (i := 0) (v := .int .i64 x1) (t := 68) (b := w.heap.size) w #[.int .i64 x1, .int .i64 y1] rfl (by simp)).below ((Below.refl _ _).alloc (Nat.le_refl _) (.cells #[.int .i64 0, .int .i64 0] 68))).1
  have e1 := ((At.boxc (i := 1) (v := .int .i64 y1) (t := 68) (b := w.heap.size) w #[.int .i64 x1, .int .i64 y1] rfl (by simp)).below ((Below.refl _ _).alloc (Nat.le_refl _) (.cells #[.int .i64 0, .int .i64 0] 68))).1
  go_wp2_with fail
  refine (C1.out _).mono ?_
  rintro e w1 ⟨rfl, hb1⟩
  clear e0 e1
  have e0 := (((At.boxc (i := 0) (v := .int .i64 x1) (t := 68) (b := w.heap.size) w #[.int .i64 x1, .int .i64 y1] rfl (by simp)).below ((Below.refl _ _).alloc (Nat.le_refl _) (.cells #[.int .i64 0, .int .i64 0] 68))).below hb1).1
  have e1 := (((At.boxc (i := 1) (v := .int .i64 y1) (t := 68) (b := w.heap.size) w #[.int .i64 x1, .int .i64 y1] rfl (by simp)).below ((Below.refl _ _).alloc (Nat.le_refl _) (.cells #[.int .i64 0, .int .i64 0] 68))).below hb1).1
  have c1 := ((Cel.box (i := 0) (v := .int .i64 0) (t := 68) (b := w.heap.size + 1) (World.alloc w (.cells #[.int .i64 x1, .int .i64 y1] 68)) #[.int .i64 0, .int .i64 0] rfl (by simp)).below hb1)
  have c2 := ((Cel.box (i := 1) (v := .int .i64 0) (t := 68) (b := w.heap.size + 1) (World.alloc w (.cells #[.int .i64 x1, .int .i64 y1] 68)) #[.int .i64 0, .int .i64 0] rfl (by simp)).below hb1)
  obtain ⟨c1a, c1b, c1c⟩ := c1
  obtain ⟨c2a, c2b, c2c⟩ := c2
  have HB := Lib.hid (bt (bt ((Below.refl _ _).alloc (Nat.le_refl _) (.cells #[.int .i64 x1, .int .i64 y1] 68)) ((Below.refl _ _).alloc (Nat.le_refl _) (.cells #[.int .i64 0, .int .i64 0] 68))) hb1)
  go_wp2
  refine bodyPost_ret (v := .tuple #[gv (x1, -y1), .int .i64 0]) (by simp [results, Try.results72, go_sem, c1a, c2a]) rfl ?_
  exact ⟨rfl, below_cells2 HB.out (by omega)⟩
set_option maxHeartbeats 2000000 in
theorem gnorm_no {x : Gz} {w : World} (hx : gsz x < GM) (hs : gfits (gsz x) (gsz x) = false) : Calls Try.prog 73 #[gv x] w (Two 0 13 w) := by
  have C1 := Lib.hid fun (w : World) => gsize_yes (w := w) hx
  have C3 := Lib.hid fun (w : World) => gfits_any (a := gsz x) (b := gsz x) (w := w) (by omega) (by omega)
  rw [hs] at C3
  clear hs hx
  generalize gsz x = sx at C1 C3
  obtain ⟨x1, y1⟩ := x
  go_enter Try.func73, Try.ntmps73
  have e0 := (At.boxc (i := 0) (v := .int .i64 x1) (t := 68) (b := w.heap.size) w #[.int .i64 x1, .int .i64 y1] rfl (by simp)).1
  have e1 := (At.boxc (i := 1) (v := .int .i64 y1) (t := 68) (b := w.heap.size) w #[.int .i64 x1, .int .i64 y1] rfl (by simp)).1
  go_wp2_with fail
  refine (C1.out _).mono ?_
  rintro e w1 ⟨rfl, hb1⟩
  clear e0 e1
  go_wp2_with fail
  refine (C3.out _).mono ?_
  rintro e w' ⟨rfl, rfl⟩
  go_wp2
  go_ret2
  exact ⟨by simp, (bt ((Below.refl _ _).alloc (Nat.le_refl _) (.cells #[.int .i64 x1, .int .i64 y1] 68)) hb1)⟩
set_option maxHeartbeats 2000000 in
theorem gnorm_yes {x : Gz} {w : World} (hx : gsz x < GM) (hs : gfits (gsz x) (gsz x) = true) : Calls Try.prog 73 #[gv x] w (Two (gnm x) 0 w) := by
  have C1 := Lib.hid fun (w : World) => gsize_yes (w := w) hx
  have C3 := Lib.hid fun (w : World) => gfits_any (a := gsz x) (b := gsz x) (w := w) (by omega) (by omega)
  rw [hs] at C3
  have hs' : gsz x * gsz x < GM := of_decide_eq_true hs
  have HX : gsz x < 2 * GM := by omega
  have HN : Hid (0 ≤ gnm x ∧ gnm x < 1125899906842624) := by
    have h1 := gnm_le x
    have h2 : ((gsz x * gsz x : Nat) : Int) = (gsz x : Int) * gsz x := by simp
    unfold GM at hs'
    exact ⟨gnm_nonneg x, by omega⟩
  have HW : Hid (((x.1 * x.1).natAbs + (x.2 * -x.2).natAbs < 2 ^ 53) ∧ (x.1 * -x.2).natAbs + (x.2 * x.1).natAbs < 2 ^ 53) := by
    have := gmul_parts x x
    unfold GM at hs'
    rw [Int.mul_neg, Int.mul_neg, Int.natAbs_neg, Int.natAbs_neg]
    show _ ∧ _; omega
  clear hs hx hs'
  generalize gsz x = sx at C1 C3
  obtain ⟨x1, y1⟩ := x
  go_enter Try.func73, Try.ntmps73
  have e0 := (At.boxc (i := 0) (v := .int .i64 x1) (t := 68) (b := w.heap.size) w #[.int .i64 x1, .int .i64 y1] rfl (by simp)).1
  have e1 := (At.boxc (i := 1) (v := .int .i64 y1) (t := 68) (b := w.heap.size) w #[.int .i64 x1, .int .i64 y1] rfl (by simp)).1
  go_wp2_with fail
  refine (C1.out _).mono ?_
  rintro e w1 ⟨rfl, hb1⟩
  clear e0 e1
  go_wp2_with fail
  refine (C3.out _).mono ?_
  rintro e w' ⟨rfl, rfl⟩
  have e0 := ((At.boxc (i := 0) (v := .int .i64 x1) (t := 68) (b := w.heap.size) w #[.int .i64 x1, .int .i64 y1] rfl (by simp)).below hb1).1
  have e1 := ((At.boxc (i := 1) (v := .int .i64 y1) (t := 68) (b := w.heap.size) w #[.int .i64 x1, .int .i64 y1] rfl (by simp)).below hb1).1
  go_wp2_with fail
  refine (ginside_any HX).mono ?_
  rintro e wp1 ⟨a, b, rfl, hc, hp1⟩
  clear e0 e1 C1 C3
  obtain ⟨re, im, hop0, HC⟩ := IsC.prod (y := (x1, -y1)) hc.out ⟨hc.out.1, hc.out.2.neg⟩ HW.out.1 HW.out.2
  have hop := fun t w => run_complex_mul (P := Try.prog) w t a b a (Op.negFloat .f64 b) re im hop0
  have hre : IsW re (gnm (x1, y1)) := by
    have := HC.1
    have e : gnm (x1, y1) = x1 * x1 - y1 * -y1 := by unfold gnm; simp only; rw [Int.mul_neg, Int.sub_neg]
    rw [e]; exact this
  have cv := fun (w : World) => run_convert_float_int (P := Try.prog) w 108 3 .f64 .i64 re (gnm (x1, y1)) (by rw [Try.underlying108]; rfl) Try.underlying3 (hre.toInt (by have := HN.out; omega) (by have := HN.out; omega))
  clear hop0 HC hre
  generalize gnm (x1, y1) = nm at *
  go_wp2_with (simp only [hop, cv])
  go_ret2
  exact ⟨by simp, (bt (bt ((Below.refl _ _).alloc (Nat.le_refl _) (.cells #[.int .i64 x1, .int .i64 y1] 68)) hb1) hp1)⟩
end Go.Proofs.Ytphofjinncbaaaa
namespace Go.Proofs.Ytphofjinncbaaaa
open Go.RowKit
set_option linter.unusedVariables false
set_option linter.unusedSimpArgs false

/-- a word and an error -/
def WTwo (v : Int) (er : Int) (w : World) (e : Ending) (w' : World) : Prop := e = .returned (.tuple #[.int .u64 v, .int .i64 er]) ∧ Below w.heap.size w w'
set_option maxHeartbeats 1000000 in
theorem word_zero {A : Option Addr} {n c L : Nat} {w : World} (h : Num w (.slice A n c) 0 L) (hL : L ≤ 1099511627776) : Calls Try.prog 93 #[.slice A n c] w (WTwo 0 0 w) := by
  obtain ⟨A0, n0, c0, xs, e, hr, ha, hv, hl⟩ := h
  injection e with e1 e2 e3
  subst e1 e2 e3
  have C := Lib.hid (trim_any A n c xs w hr (by omega))
  rw [strip_eq_dg W_gt ha, hv] at C
  clear hr ha hv
  rw [dg_zero W_gt] at C
  go_enter Try.func93, Try.ntmps93
  go_wp2_with fail
  refine C.out.mono ?_
  rintro e w1 ⟨A1, n1, c1, rfl, ho, hb⟩
  obtain rfl : n1 = 0 := ho.rd.len.symm
  have HB := Lib.hid hb
  clear ho hb C
  go_wp2
  go_ret2
  exact ⟨by simp, HB.out⟩
set_option maxHeartbeats 1000000 in
theorem word_one {A : Option Addr} {n c L x : Nat} {w : World} (h : Num w (.slice A n c) x L) (hL : L ≤ 1099511627776) (h0 : 0 < x) (hx : x < W) : Calls Try.prog 93 #[.slice A n c] w (WTwo (x : Int) 0 w) := by
  obtain ⟨A0, n0, c0, xs, e, hr, ha, hv, hl⟩ := h
  injection e with e1 e2 e3
  subst e1 e2 e3
  have C := Lib.hid (trim_any A n c xs w hr (by omega))
  rw [strip_eq_dg W_gt ha, hv] at C
  clear hr ha hv
  rw [dg_small h0 hx] at C
  clear h0 hx
  go_enter Try.func93, Try.ntmps93
  go_wp2_with fail
  refine C.out.mono ?_
  rintro e w1 ⟨A1, n1, c1, rfl, ho, hb⟩
  obtain rfl : n1 = 1 := ho.rd.len.symm
  obtain ⟨g, off, rfl, hg, hc⟩ := ho.rd.at (i := 0) (by omega)
  have hc : w1.cell? ⟨g, off, none⟩ = some (.int .u64 (x : Int)) := hc
  have HB := Lib.hid hb
  clear ho hb C
  go_wp2
  go_ret2
  exact ⟨by simp, HB.out⟩
set_option maxHeartbeats 1000000 in
theorem word_big {A : Option Addr} {n c L x : Nat} {w : World} (h : Num w (.slice A n c) x L) (hL : L ≤ 1099511627776) (hx : W ≤ x) : Calls Try.prog 93 #[.slice A n c] w (WTwo 0 13 w) := by
  obtain ⟨A0, n0, c0, xs, e, hr, ha, hv, hl⟩ := h
  injection e with e1 e2 e3
  subst e1 e2 e3
  have C := Lib.hid (trim_any A n c xs w hr (by omega))
  rw [strip_eq_dg W_gt ha, hv] at C
  clear hr ha hv
  have hlen : 2 ≤ (dg W x).length := by
    rcases Nat.lt_or_ge (dg W x).length 2 with h | h
    · have h1 := val_lt (dg_all W_gt x)
      rw [dg_val W_gt] at h1
      have h2 := Nat.pow_le_pow_right W_pos (show (dg W x).length ≤ 1 by omega)
      rw [Nat.pow_one] at h2
      omega
    · exact h
  clear hx
  go_enter Try.func93, Try.ntmps93
  go_wp2_with fail
  refine C.out.mono ?_
  rintro e w1 ⟨A1, n1, c1, rfl, ho, hb⟩
  have hn1 : 2 ≤ n1 := by have := ho.rd.len; omega
  have d1 : ((n1 : Int) == 0) = false := by simp; omega
  have d2 : ((n1 : Int) == 1) = false := by simp; omega
  have HB := Lib.hid hb
  clear ho hb C hlen
  go_wp2
  go_ret2
  exact ⟨by simp, HB.out⟩
/-- what zz.Small answers: the integer, or that it is great -/
def SmP (z v er : Int) : Prop := (er = 0 ∧ v = z ∧ -9223372036854775808 ≤ z ∧ z ≤ 9223372036854775807) ∨ (er = 13 ∧ GM ≤ z.natAbs)
def GSm (z : Int) (w : World) (e : Ending) (w' : World) : Prop := ∃ v er : Int, e = .returned (.tuple #[.int .i64 v, .int .i64 er]) ∧ Hid (SmP z v er) ∧ Below w.heap.size w w'
set_option maxHeartbeats 2000000 in
theorem small_zero {s : Bool} {A : Option Addr} {n c L : Nat} {w : World} (h : Num w (.slice A n c) 0 L) (hL : L ≤ 1099511627776) : Calls Try.prog 65 #[.agg #[.bool s, .slice A n c]] w (GSm (sg s 0) w) := by
  have HS : Hid (SmP (sg s 0) 0 0) := by
    have e : sg s 0 = 0 := by cases s <;> rfl
    rw [e]; exact .inl ⟨rfl, rfl, by omega, by omega⟩
  generalize sg s 0 = z at *
  have d1 : decide ((0 : Int) ≤ 9223372036854775808) = true := rfl
  cases s
  · skip
    go_enter Try.func65, Try.ntmps65
    have HN := Lib.hid (h.below (belowA w (.cells #[.bool false, .slice A n c] 47)))
    clear h
    have e1 := (At.boxc (i := 1) (v := .slice A n c) (t := 47) (b := w.heap.size) w #[.bool false, .slice A n c] rfl (by simp)).1
    go_wp2_with fail
    refine (word_zero HN.out hL).mono ?_
    rintro e w1 ⟨rfl, hb1⟩
    have e0 := ((At.boxc (i := 0) (v := .bool false) (t := 47) (b := w.heap.size) w #[.bool false, .slice A n c] rfl (by simp)).below hb1).1
    go_wp2
    go_ret2
    exact ⟨0, 0, by simp, HS, (bt ((Below.refl _ _).alloc (Nat.le_refl _) (.cells #[.bool false, .slice A n c] 47)) hb1)⟩
  · skip
    go_enter Try.func65, Try.ntmps65
    have HN := Lib.hid (h.below (belowA w (.cells #[.bool true, .slice A n c] 47)))
    clear h
    have e1 := (At.boxc (i := 1) (v := .slice A n c) (t := 47) (b := w.heap.size) w #[.bool true, .slice A n c] rfl (by simp)).1
    go_wp2_with fail
    refine (word_zero HN.out hL).mono ?_
    rintro e w1 ⟨rfl, hb1⟩
    have e0 := ((At.boxc (i := 0) (v := .bool true) (t := 47) (b := w.heap.size) w #[.bool true, .slice A n c] rfl (by simp)).below hb1).1
    go_wp2
    go_ret2
    exact ⟨0, 0, by simp, HS, (bt ((Below.refl _ _).alloc (Nat.le_refl _) (.cells #[.bool true, .slice A n c] 47)) hb1)⟩
set_option maxHeartbeats 2000000 in
theorem small_big {s : Bool} {A : Option Addr} {n c L x : Nat} {w : World} (h : Num w (.slice A n c) x L) (hL : L ≤ 1099511627776) (hx : W ≤ x) : Calls Try.prog 65 #[.agg #[.bool s, .slice A n c]] w (GSm (sg s x) w) := by
  have HS : Hid (SmP (sg s x) 0 13) := .inr ⟨rfl, by rw [sg_abs]; rw [W_eq] at hx; unfold GM; omega⟩
  generalize sg s x = z at *
  have HX := Lib.hid hx
  clear hx
  go_enter Try.func65, Try.ntmps65
  have HN := Lib.hid (h.below (belowA w (.cells #[.bool s, .slice A n c] 47)))
  clear h
  have e1 := (At.boxc (i := 1) (v := .slice A n c) (t := 47) (b := w.heap.size) w #[.bool s, .slice A n c] rfl (by simp)).1
  go_wp2_with fail
  refine (word_big HN.out hL HX.out).mono ?_
  rintro e w1 ⟨rfl, hb1⟩
  go_wp2
  go_ret2
  exact ⟨0, 13, by simp, HS, (bt ((Below.refl _ _).alloc (Nat.le_refl _) (.cells #[.bool s, .slice A n c] 47)) hb1)⟩
set_option maxHeartbeats 2000000 in
theorem small_pos {A : Option Addr} {n c L x : Nat} {w : World} (h : Num w (.slice A n c) x L) (hL : L ≤ 1099511627776) (h0 : 0 < x) (hx : x < W) : Calls Try.prog 65 #[.agg #[.bool false, .slice A n c]] w (GSm (sg false x) w) := by
  have HX := Lib.hid (And.intro h0 hx)
  by_cases hlt : (x : Int) ≤ 9223372036854775807
  · have HS : Hid (SmP (sg false x) (x : Int) 0) := .inl ⟨rfl, rfl, by show _ ≤ (x : Int); omega, hlt⟩
    generalize sg false x = z at *
    have d1 : decide ((x : Int) ≤ 9223372036854775807) = true := decide_eq_true hlt
    have hw : IntKind.i64.wrap (x : Int) = (x : Int) := by rw [IntKind.wrap_i64]; omega
    clear h0 hx hlt
    go_enter Try.func65, Try.ntmps65
    have HN := Lib.hid (h.below (belowA w (.cells #[.bool false, .slice A n c] 47)))
    clear h
    have e1 := (At.boxc (i := 1) (v := .slice A n c) (t := 47) (b := w.heap.size) w #[.bool false, .slice A n c] rfl (by simp)).1
    go_wp2_with fail
    refine (word_one HN.out hL HX.out.1 HX.out.2).mono ?_
    rintro e w1 ⟨rfl, hb1⟩
    have e0 := ((At.boxc (i := 0) (v := .bool false) (t := 47) (b := w.heap.size) w #[.bool false, .slice A n c] rfl (by simp)).below hb1).1
    go_wp2
    go_ret2
    exact ⟨(x : Int), 0, by simp, HS, (bt ((Below.refl _ _).alloc (Nat.le_refl _) (.cells #[.bool false, .slice A n c] 47)) hb1)⟩
  · have HS : Hid (SmP (sg false x) 0 13) := .inr ⟨rfl, by rw [sg_abs]; unfold GM; omega⟩
    generalize sg false x = z at *
    have d1 : decide ((x : Int) ≤ 9223372036854775807) = false := decide_eq_false hlt
    clear h0 hx hlt
    go_enter Try.func65, Try.ntmps65
    have HN := Lib.hid (h.below (belowA w (.cells #[.bool false, .slice A n c] 47)))
    clear h
    have e1 := (At.boxc (i := 1) (v := .slice A n c) (t := 47) (b := w.heap.size) w #[.bool false, .slice A n c] rfl (by simp)).1
    go_wp2_with fail
    refine (word_one HN.out hL HX.out.1 HX.out.2).mono ?_
    rintro e w1 ⟨rfl, hb1⟩
    have e0 := ((At.boxc (i := 0) (v := .bool false) (t := 47) (b := w.heap.size) w #[.bool false, .slice A n c] rfl (by simp)).below hb1).1
    go_wp2
    go_ret2
    exact ⟨0, 13, by simp, HS, (bt ((Below.refl _ _).alloc (Nat.le_refl _) (.cells #[.bool false, .slice A n c] 47)) hb1)⟩
set_option maxHeartbeats 2000000 in
theorem small_neg {A : Option Addr} {n c L x : Nat} {w : World} (h : Num w (.slice A n c) x L) (hL : L ≤ 1099511627776) (h0 : 0 < x) (hx : x < W) : Calls Try.prog 65 #[.agg #[.bool true, .slice A n c]] w (GSm (sg true x) w) := by
  have HX := Lib.hid (And.intro h0 hx)
  by_cases hlt : (x : Int) ≤ 9223372036854775808
  · have HS : Hid (SmP (sg true x) (-(x : Int)) 0) := .inl ⟨rfl, rfl, by show _ ≤ -(x : Int); omega, by show -(x : Int) ≤ _; omega⟩
    generalize sg true x = z at *
    have d1 : decide ((x : Int) ≤ 9223372036854775808) = true := decide_eq_true hlt
    have hw : IntKind.u64.wrap (-(x : Int)) = 18446744073709551616 - (x : Int) := by rw [IntKind.wrap_u64]; omega
    have hw2 : IntKind.i64.wrap (18446744073709551616 - (x : Int)) = -(x : Int) := by rw [IntKind.wrap_i64]; omega
    clear h0 hx hlt
    go_enter Try.func65, Try.ntmps65
    have HN := Lib.hid (h.below (belowA w (.cells #[.bool true, .slice A n c] 47)))
    clear h
    have e1 := (At.boxc (i := 1) (v := .slice A n c) (t := 47) (b := w.heap.size) w #[.bool true, .slice A n c] rfl (by simp)).1
    go_wp2_with fail
    refine (word_one HN.out hL HX.out.1 HX.out.2).mono ?_
    rintro e w1 ⟨rfl, hb1⟩
    have e0 := ((At.boxc (i := 0) (v := .bool true) (t := 47) (b := w.heap.size) w #[.bool true, .slice A n c] rfl (by simp)).below hb1).1
    go_wp2
    go_ret2
    exact ⟨-(x : Int), 0, by simp, HS, (bt ((Below.refl _ _).alloc (Nat.le_refl _) (.cells #[.bool true, .slice A n c] 47)) hb1)⟩
  · have HS : Hid (SmP (sg true x) 0 13) := .inr ⟨rfl, by rw [sg_abs]; unfold GM; omega⟩
    generalize sg true x = z at *
    have d1 : decide ((x : Int) ≤ 9223372036854775808) = false := decide_eq_false hlt
    clear h0 hx hlt
    go_enter Try.func65, Try.ntmps65
    have HN := Lib.hid (h.below (belowA w (.cells #[.bool true, .slice A n c] 47)))
    clear h
    have e1 := (At.boxc (i := 1) (v := .slice A n c) (t := 47) (b := w.heap.size) w #[.bool true, .slice A n c] rfl (by simp)).1
    go_wp2_with fail
    refine (word_one HN.out hL HX.out.1 HX.out.2).mono ?_
    rintro e w1 ⟨rfl, hb1⟩
    have e0 := ((At.boxc (i := 0) (v := .bool true) (t := 47) (b := w.heap.size) w #[.bool true, .slice A n c] rfl (by simp)).below hb1).1
    go_wp2
    go_ret2
    exact ⟨0, 13, by simp, HS, (bt ((Below.refl _ _).alloc (Nat.le_refl _) (.cells #[.bool true, .slice A n c] 47)) hb1)⟩
theorem small_any {s : Bool} {A : Option Addr} {n c x L : Nat} {w : World} (h : Num w (.slice A n c) x L) (hL : L ≤ 1099511627776) : Calls Try.prog 65 #[.agg #[.bool s, .slice A n c]] w (GSm (sg s x) w) := by
  rcases Nat.eq_zero_or_pos x with h0 | h0
  · subst h0; exact small_zero h hL
  · rcases Nat.lt_or_ge x W with hx | hx
    · cases s
      · exact small_pos h hL h0 hx
      · exact small_neg h hL h0 hx
    · exact small_big h hL hx
end Go.Proofs.Ytphofjinncbaaaa
namespace Go.Proofs.Ytphofjinncbaaaa
open Go.RowKit
set_option linter.unusedVariables false
set_option linter.unusedSimpArgs false

def gpw (s pw : Nat) : Nat := if pw = GM then GM else if pw * s < GM then pw * s else GM
/-- a coefficient more: the sum of the sizes so far, the power -/
def gstp (s : Nat) (st : Option (Nat × Nat)) (c : Int) : Option (Nat × Nat) :=
  match st with
  | none => none
  | some (a, pw) =>
    if GM ≤ c.natAbs then none
    else if c ≠ 0 ∧ (pw = GM ∨ ¬ c.natAbs * pw < GM) then none
    else if ¬ a + c.natAbs * pw < GM then none
    else some (a + c.natAbs * pw, gpw s pw)
def gfold (s : Nat) (zs : List Int) : Option (Nat × Nat) := zs.foldl (gstp s) (some (0, 1))
theorem gfold_none (s : Nat) (zs : List Int) : zs.foldl (gstp s) none = none := by
  induction zs with
  | nil => rfl
  | cons c zs ih => exact ih
theorem gpw_le {s pw : Nat} : gpw s pw ≤ GM := by unfold gpw; split <;> (try split) <;> omega
theorem gpw_pos {s pw : Nat} (hs : 1 ≤ s) (hp : 1 ≤ pw) : 1 ≤ gpw s pw := by
  have : 1 ≤ GM := by unfold GM; omega
  unfold gpw
  split
  · exact this
  · split
    · exact Nat.mul_le_mul hp hs
    · exact this
theorem gfold_sum {s : Nat} (hs : 1 ≤ s) : ∀ (zs : List Int) (a pw b q : Nat), pw ≤ GM → 1 ≤ pw → a < GM → zs.foldl (gstp s) (some (a, pw)) = some (b, q) →
    b < GM ∧ (pw < GM → b = a + pw * wsum s zs) ∧ (pw = GM → b = a ∧ wsum s zs = 0)
  | [], a, pw, b, q, h1, h2, h3, h => by
    injection h with h
    injection h with h4 h5
    subst h4
    exact ⟨h3, fun _ => by simp [wsum], fun _ => ⟨rfl, rfl⟩⟩
  | c :: zs, a, pw, b, q, h1, h2, h3, h => by
    rw [List.foldl_cons] at h
    by_cases k1 : GM ≤ c.natAbs
    · rw [show gstp s (some (a, pw)) c = none by unfold gstp; simp only; rw [if_pos k1], gfold_none] at h; cases h
    by_cases k2 : c ≠ 0 ∧ (pw = GM ∨ ¬ c.natAbs * pw < GM)
    · rw [show gstp s (some (a, pw)) c = none by unfold gstp; simp only; rw [if_neg k1, if_pos k2], gfold_none] at h; cases h
    by_cases k3 : ¬ a + c.natAbs * pw < GM
    · rw [show gstp s (some (a, pw)) c = none by unfold gstp; simp only; rw [if_neg k1, if_neg k2, if_pos k3], gfold_none] at h; cases h
    rw [show gstp s (some (a, pw)) c = some (a + c.natAbs * pw, gpw s pw) by unfold gstp; simp only; rw [if_neg k1, if_neg k2, if_neg k3]] at h
    obtain ⟨g1, g2, g3⟩ := gfold_sum hs zs _ _ b q gpw_le (gpw_pos hs h2) (by omega) h
    refine ⟨g1, fun hp => ?_, fun hp => ?_⟩
    · show b = a + pw * (c.natAbs + s * wsum s zs)
      by_cases hq : pw * s < GM
      · have e : gpw s pw = pw * s := by unfold gpw; rw [if_neg (by omega), if_pos hq]
        rw [e] at g2
        rw [g2 hq, Nat.mul_add, Nat.mul_assoc, Nat.mul_comm c.natAbs pw]
        omega
      · have e : gpw s pw = GM := by unfold gpw; rw [if_neg (by omega), if_neg hq]
        obtain ⟨e1, e2⟩ := g3 e
        rw [e1, e2, Nat.mul_add, Nat.mul_zero, Nat.mul_zero, Nat.mul_comm c.natAbs pw]
        omega
    · have hc : c = 0 := by
        rcases Classical.em (c = 0) with h | h
        · exact h
        · exact absurd ⟨h, .inl hp⟩ k2
      have e : gpw s pw = GM := by unfold gpw; rw [if_pos hp]
      obtain ⟨e1, e2⟩ := g3 e
      subst hc
      refine ⟨by rw [e1]; simp, ?_⟩
      show (0 : Int).natAbs + s * wsum s zs = 0
      rw [e2]; rfl
theorem gfold_wsum {s : Nat} (hs : 1 ≤ s) {zs : List Int} {st : Nat × Nat} (h : gfold s zs = some st) : wsum s zs < GM := by
  obtain ⟨b, q⟩ := st
  obtain ⟨h1, h2, _⟩ := gfold_sum hs zs 0 1 b q (by unfold GM; omega) (Nat.le_refl _) (by unfold GM; omega) h
  have := h2 (by unfold GM; omega)
  omega
theorem gfold_take {s : Nat} {zs : List Int} {i : Nat} {c : Int} (h : zs[i]? = some c) : gfold s (zs.take (i + 1)) = gstp s (gfold s (zs.take i)) c := by
  unfold gfold
  rw [take_snoc h, List.foldl_append]
  rfl
theorem gfold_dead {s : Nat} {zs : List Int} {i : Nat} (h : gfold s (zs.take i) = none) : gfold s zs = none := by
  unfold gfold at *
  rw [← List.take_append_drop i zs, List.foldl_append, h, gfold_none]
/-- what gauss.Value answers -/
def GVal (z : Gz) (s : Nat) (zs : List Int) (w : World) (e : Ending) (w' : World) : Prop :=
  ∃ (v : Gz) (er : Int), e = .returned (.tuple #[gv v, .int .i64 er]) ∧ Hid ((er = 0 ∧ v = gev zs z ∧ (∃ st, gfold s zs = some st)) ∨ (er = 13 ∧ v = (0, 0) ∧ gfold s zs = none)) ∧ Below w.heap.size w w'
theorem elIK : ElemK Try.prog 93 3 (.int .i64 0) 1 8 := ⟨⟨Try.underlying93, by kernel_rfl⟩, rfl, by omega, by omega⟩
def zvl (zs : List Int) : List Value := zs.map fun z => .int .i64 z
theorem zvl_snoc (zs : List Int) (z : Int) : zvl zs ++ [.int .i64 z] = zvl (zs ++ [z]) := by simp [zvl]
theorem gst_ok {s a p : Nat} {c : Int} (h1 : c.natAbs < GM) (h2 : c = 0 ∨ (p ≠ GM ∧ c.natAbs * p < GM)) (h3 : a + c.natAbs * p < GM) : gstp s (some (a, p)) c = some (a + c.natAbs * p, gpw s p) := by
  unfold gstp
  simp only
  rw [if_neg (by omega), if_neg (by rintro ⟨h, h'⟩; exact h2.elim h (fun h6 => h'.elim h6.1 (fun h => h h6.2))), if_neg (by omega)]
theorem gst_bad {s a p : Nat} {c : Int} (h : GM ≤ c.natAbs ∨ (c ≠ 0 ∧ (p = GM ∨ ¬ c.natAbs * p < GM)) ∨ ¬ a + c.natAbs * p < GM) : gstp s (some (a, p)) c = none := by
  unfold gstp
  simp only
  split
  · rfl
  · split
    · rfl
    · rename_i k1 k2; rw [if_pos (h.elim (fun h => absurd h k1) (fun h => h.elim (fun h => absurd h k2) id))]
/-- what the first loop keeps -/
def GXI (s : Nat) (zs : List Int) (w1 : World) (i : Nat) (A' : Option Addr) (c' a0 p0 : Nat) (wr : World) : Prop :=
  Below w1.heap.size w1 wr ∧ RowK 1 3 w1.heap.size wr A' i c' (zvl (zs.take i)) ∧ gfold s (zs.take i) = some (a0, p0) ∧ a0 < GM ∧ 1 ≤ p0 ∧ p0 ≤ GM
def GXP (zs : List Int) (L : Nat) (w1 : World) (A1 : Option Addr) (n1 c1 B b : Nat) (x y : Int) : Prop :=
  ZPC L w1 (.slice A1 n1 c1) zs ∧ n1 = zs.length ∧ At w1 ⟨b, 0, none⟩ (.int .i64 x) ∧ At w1 ⟨b, 1, none⟩ (.int .i64 y) ∧ Cel w1 ⟨b + 1, 0, none⟩ (.int .i64 0) ∧ Cel w1 ⟨b + 1, 1, none⟩ (.int .i64 0) ∧ b < w1.heap.size ∧ B ≤ b
set_option maxRecDepth 100000 in
set_option maxHeartbeats 16000000 in
theorem gvalue_any {z : Gz} {A : Option Addr} {n c L : Nat} {rs : List Zc} {w : World} (h : ZPI L w (.slice A n c) rs) (hz : gsz z < GM) (hL : L ≤ 1099511627776) (hn : n ≤ 1048576) :
    Calls Try.prog 35 #[.slice A n c, gv z] w (GVal z (max (gsz z) 1) (ztr (rs.map zv)) w) := by
  have C1 := Lib.hid fun (w : World) => gsize_yes (w := w) hz
  obtain ⟨s, hs⟩ : ∃ s : Nat, s = max (gsz z) 1 := ⟨_, rfl⟩
  rw [← hs]
  have HS : Hid (1 ≤ s ∧ s ≤ GM ∧ gsz z ≤ s) := by unfold GM at hz ⊢; exact ⟨by omega, by omega, by omega⟩
  have hmax := fun (ts : Array TypeId) (t : TypeId) (w : World) => (show (Builtin.max_ ts t #[.int .i64 (gsz z : Int), .int .i64 1]).run Try.prog w = .ok (.int .i64 (s : Int)) w by rw [run_max_int2]; congr 2; split <;> omega)
  have HZ := Lib.hid hz
  have H := Lib.hid h
  have hn1 : (ztr (rs.map zv)).length ≤ n := h.ztrn
  have CI := Lib.hid fun (w : World) => ginside_any (z := z) (w := w) (by omega)
  clear hs hz h
  generalize gsz z = sz at C1 hmax
  generalize hzs : ztr (rs.map zv) = zs at hn1 ⊢
  have HZS := Lib.hid hzs
  clear hzs
  obtain ⟨zx, zy⟩ := z
  go_enter Try.func35, Try.ntmps35
  have e0 := ((At.boxc (i := 0) (v := .int .i64 zx) (t := 68) (b := w.heap.size) w #[.int .i64 zx, .int .i64 zy] rfl (by simp)).below ((Below.refl _ _).alloc (Nat.le_refl _) (.cells #[.int .i64 0, .int .i64 0] 68))).1
  have e1 := ((At.boxc (i := 1) (v := .int .i64 zy) (t := 68) (b := w.heap.size) w #[.int .i64 zx, .int .i64 zy] rfl (by simp)).below ((Below.refl _ _).alloc (Nat.le_refl _) (.cells #[.int .i64 0, .int .i64 0] 68))).1
  go_wp2_with fail
  refine (C1.out _).mono ?_
  rintro e w1 ⟨rfl, hb1⟩
  clear e0 e1 C1
  have HI := Lib.hid (H.out.below (bt (bt ((Below.refl _ _).alloc (Nat.le_refl _) (.cells #[.int .i64 zx, .int .i64 zy] 68)) ((Below.refl _ _).alloc (Nat.le_refl _) (.cells #[.int .i64 0, .int .i64 0] 68))) hb1))
  go_wp2_with fail
  refine (zpnorm_any HI.out hL (by omega)).mono ?_
  rw [HZS.out]
  rintro e v1 ⟨A1, n1, c1, rfl, hp, hv1⟩
  have HB1 := Lib.hid (bt (bt (bt ((Below.refl _ _).alloc (Nat.le_refl _) (.cells #[.int .i64 zx, .int .i64 zy] 68)) ((Below.refl _ _).alloc (Nat.le_refl _) (.cells #[.int .i64 0, .int .i64 0] 68))) hb1) hv1)
  have HXP : Hid (GXP zs L v1 A1 n1 c1 w.heap.size w.heap.size zx zy) := ⟨hp.c, hp.len, ((((At.boxc (i := 0) (v := .int .i64 zx) (t := 68) (b := w.heap.size) w #[.int .i64 zx, .int .i64 zy] rfl (by simp)).below ((Below.refl _ _).alloc (Nat.le_refl _) (.cells #[.int .i64 0, .int .i64 0] 68))).below hb1).below hv1), ((((At.boxc (i := 1) (v := .int .i64 zy) (t := 68) (b := w.heap.size) w #[.int .i64 zx, .int .i64 zy] rfl (by simp)).below ((Below.refl _ _).alloc (Nat.le_refl _) (.cells #[.int .i64 0, .int .i64 0] 68))).below hb1).below hv1), (((Cel.box (i := 0) (v := .int .i64 0) (t := 68) (b := w.heap.size + 1) (World.alloc w (.cells #[.int .i64 zx, .int .i64 zy] 68)) #[.int .i64 0, .int .i64 0] rfl (by simp)).below hb1).below hv1), (((Cel.box (i := 1) (v := .int .i64 0) (t := 68) (b := w.heap.size + 1) (World.alloc w (.cells #[.int .i64 zx, .int .i64 zy] 68)) #[.int .i64 0, .int .i64 0] rfl (by simp)).below hb1).below hv1), ((((At.boxc (i := 0) (v := .int .i64 zx) (t := 68) (b := w.heap.size) w #[.int .i64 zx, .int .i64 zy] rfl (by simp)).below ((Below.refl _ _).alloc (Nat.le_refl _) (.cells #[.int .i64 0, .int .i64 0] 68))).below hb1).below hv1).2, Nat.le_refl _⟩
  have hn2 : n1 ≤ 1048576 := by have := hp.len; omega
  clear hp hv1 HI H HZS hmax hb1
  go_wp2
  go_loopw [8, 9, 10, 34] (fun av pv ov kv wr => ∃ (i : Nat) (A' : Option Addr) (c' a0 p0 : Nat), Hid (GXI s zs v1 i A' c' a0 p0 wr) ∧ i ≤ n1 ∧ av = .int .i64 (a0 : Int) ∧ pv = .int .i64 (p0 : Int) ∧ ov = .slice A' i c' ∧ kv = .int .i64 (i : Int)) (fun _ _ _ kv _ => n1 - (intOf kv).toNat)
  case atStart => exact ⟨0, none, 0, 0, 1, ⟨Below.refl _ _, by simpa [zvl] using (RowK.nil : RowK 1 3 v1.heap.size v1 none 0 0 []), rfl, by unfold GM; omega, Nat.le_refl _, by unfold GM; omega⟩, Nat.zero_le _, rfl, rfl, rfl, rfl⟩
  case round =>
    obtain ⟨i, A', c', a0, p0, hI, hi, rfl, rfl, rfl, rfl⟩ := hrel
    by_cases hlt : i < n1
    · obtain ⟨b, off, s5, A5, n5, c5, e, hb, g0, g1, hy⟩ := (HXP.out.1.below hI.out.1).at (i := i) (by have := HXP.out.2.1; omega)
      subst e
      have hzi : zs[i]? = some (zn zs i) := by
        have hl : i < zs.length := by have := HXP.out.2.1; omega
        rw [List.getElem?_eq_getElem hl, zn_of (List.getElem?_eq_getElem hl)]
      have HST : Hid (gfold s (zs.take (i + 1)) = gstp s (some (a0, p0)) (zn zs i) ∧ zs[i]? = some (zn zs i)) := ⟨by rw [gfold_take hzi, hI.out.2.2.1], hzi⟩
      have HDD : Hid (gstp s (some (a0, p0)) (zn zs i) = none → gfold s zs = none) := fun h => gfold_dead (i := i + 1) (by rw [HST.out.1, h])
      have C2 := Lib.hid (small_any (s := s5) ((hy.raw.2).below (belowA wr (.cells #[.bool s5, shv (A5, n5, c5)] 47))) hL)
      rw [show sg s5 (zco (zn zs i)).2 = zn zs i from sg_of hy.1] at C2
      simp only [shv] at C2
      have x0 := g0.1
      have x1 := g1.1
      have i1 : (0 : Int) ≤ (i : Int) := by omega
      have i2 : (i : Int) < (n1 : Int) := by omega
      generalize zn zs i = cz at *
      clear g0 g1 hy hzi
      go_wp2_with fail
      refine C2.out.mono ?_
      rintro e v2 ⟨cv, er, rfl, hcv, hb2⟩
      have B2 : Below v1.heap.size v1 v2 := bt hI.out.1 (bt (belowA _ _) hb2)
      have HOW := Lib.hid ((hI.out.2.1.below (belowA _ _)).below hb2)
      have HB2 := Lib.hid B2
      clear hb2 x0 x1 C2
      rcases hcv.out with ⟨rfl, hve, hc1, hc2⟩ | ⟨rfl, hbig⟩
      · subst hve
        clear hcv
        have C3 := Lib.hid fun (w : World) => gabs_any (n := cv) (w := w) hc1 hc2
        by_cases h0 : cv = 0
        · subst h0
          rw [show gabs 0 = 0 from rfl] at C3
          obtain ⟨a2, ha2⟩ : ∃ a2, a2 = a0 := ⟨_, rfl⟩
          have HG2 : Hid (gfold s (zs.take (i + 1)) = some (a2, gpw s p0) ∧ a2 < GM) := by
            have e := gst_ok (s := s) (a := a0) (p := p0) (c := 0) (by unfold GM; decide) (.inl rfl) (by simp; exact hI.out.2.2.2.1)
            rw [ha2]
            refine ⟨by rw [HST.out.1, e]; simp, hI.out.2.2.2.1⟩
          obtain rfl := ha2
          clear hc1 hc2
          go_wp2_with fail
          refine (C3.out _).mono ?_
          rintro e v3 ⟨rfl, rfl⟩
          clear C3
          by_cases hp : p0 = GM
          · have dP : ((p0 : Int) != 1125899906842624) = false := by rw [hp]; rfl
            have eq : (p0 : Int) = ((gpw s p0 : Nat) : Int) := by unfold gpw; rw [if_pos hp, hp]
            have HEQ := Lib.hid eq
            clear eq hp
            go_wp2_with (at_builtin; (refine wpList_appK rfl (.tmp 67) (.tmp 69) rfl elIK rfl rfl (HOW.out.below (belowA _ _)) (RowK.lit (k := 1) (T := 3) (B := 0) v2 1 [.int .i64 0] (by simp) rfl (by omega) (Nat.zero_le _)).rd (by intro u hu; simp at hu; subst hu; rfl) (by omega) (by omega) (by have := HB2.out.size; simp; omega) ?_); intro A4 c4 w4 ho4 hb4 hg4; have HN : Hid (GXI s zs v1 (i + 1) A4 c4 a2 (gpw s p0) w4) := (⟨(bt HB2.out (belowA _ _)).trans hb4, (by rw [take_snoc HST.out.2, ← zvl_snoc]; exact ho4), HG2.out.1, HG2.out.2, gpw_pos HS.out.1 hI.out.2.2.2.2.1, gpw_le⟩); clear ho4 hb4 hg4)
            go_roundw
            case rel => exact ⟨i + 1, A4, c4, a2, gpw s p0, HN, by omega, rfl, by rw [← HEQ.out], rfl, by go_num⟩
            case measure => simp [intOf]; omega
          · skip
            have dQ : ((p0 : Int) != 1125899906842624) = true := by simp; unfold GM at hp; omega
            have C4 := Lib.hid fun (w : World) => gfits_any (a := p0) (b := s) (w := w) hI.out.2.2.2.2.2 HS.out.2.1
            by_cases hf : p0 * s < GM
            · rw [show gfits p0 s = true from decide_eq_true hf] at C4
              have eq : gpw s p0 = p0 * s := by unfold gpw; rw [if_neg hp, if_pos hf]
              obtain ⟨q, hq⟩ : ∃ q : Nat, q = p0 * s := ⟨_, rfl⟩
              have hw : IntKind.i64.wrap ((p0 : Int) * (s : Int)) = (q : Int) := by
                have e : (p0 : Int) * (s : Int) = (q : Int) := by rw [hq]; simp
                rw [e, IntKind.wrap_i64]; unfold GM at hf; omega
              have HEQ : Hid (gpw s p0 = q) := by show _ = _; rw [eq, hq]
              clear eq hp hf hq
              go_wp2_with (at_builtin; (refine wpList_appK rfl (.tmp 67) (.tmp 69) rfl elIK rfl rfl (HOW.out.below (belowA _ _)) (RowK.lit (k := 1) (T := 3) (B := 0) v2 1 [.int .i64 0] (by simp) rfl (by omega) (Nat.zero_le _)).rd (by intro u hu; simp at hu; subst hu; rfl) (by omega) (by omega) (by have := HB2.out.size; simp; omega) ?_); intro A4 c4 w4 ho4 hb4 hg4; have HN : Hid (GXI s zs v1 (i + 1) A4 c4 a2 (gpw s p0) w4) := (⟨(bt HB2.out (belowA _ _)).trans hb4, (by rw [take_snoc HST.out.2, ← zvl_snoc]; exact ho4), HG2.out.1, HG2.out.2, gpw_pos HS.out.1 hI.out.2.2.2.2.1, gpw_le⟩); clear ho4 hb4 hg4)
              refine (C4.out _).mono ?_
              rintro e v5 ⟨rfl, rfl⟩
              clear C4
              go_wp2
              go_roundw
              case rel => exact ⟨i + 1, A4, c4, a2, gpw s p0, HN, by omega, rfl, by rw [HEQ.out], rfl, by go_num⟩
              case measure => simp [intOf]; omega
            · rw [show gfits p0 s = false from decide_eq_false hf] at C4
              have eq : gpw s p0 = GM := by unfold gpw; rw [if_neg hp, if_neg hf]
              have HEQ : Hid ((1125899906842624 : Int) = ((gpw s p0 : Nat) : Int)) := by show _ = _; rw [eq]; rfl
              clear eq hp hf
              go_wp2_with (at_builtin; (refine wpList_appK rfl (.tmp 67) (.tmp 69) rfl elIK rfl rfl (HOW.out.below (belowA _ _)) (RowK.lit (k := 1) (T := 3) (B := 0) v2 1 [.int .i64 0] (by simp) rfl (by omega) (Nat.zero_le _)).rd (by intro u hu; simp at hu; subst hu; rfl) (by omega) (by omega) (by have := HB2.out.size; simp; omega) ?_); intro A4 c4 w4 ho4 hb4 hg4; have HN : Hid (GXI s zs v1 (i + 1) A4 c4 a2 (gpw s p0) w4) := (⟨(bt HB2.out (belowA _ _)).trans hb4, (by rw [take_snoc HST.out.2, ← zvl_snoc]; exact ho4), HG2.out.1, HG2.out.2, gpw_pos HS.out.1 hI.out.2.2.2.2.1, gpw_le⟩); clear ho4 hb4 hg4)
              refine (C4.out _).mono ?_
              rintro e v5 ⟨rfl, rfl⟩
              clear C4
              go_wp2
              go_roundw
              case rel => exact ⟨i + 1, A4, c4, a2, gpw s p0, HN, by omega, rfl, by rw [← HEQ.out], rfl, by go_num⟩
              case measure => simp [intOf]; omega
        · obtain ⟨g, hg⟩ : ∃ g : Nat, g = gabs cv := ⟨_, rfl⟩
          have hg1 : 1 ≤ g ∧ g ≤ GM := by rw [hg]; refine ⟨?_, gabs_le _⟩; unfold gabs GM; split <;> omega
          have hgc : cv.natAbs < GM → g = cv.natAbs := fun h => by rw [hg, gabs_small h]
          have hgb : ¬ cv.natAbs < GM → g = GM := fun h => by rw [hg]; unfold gabs; rw [if_pos (by omega)]
          rw [← hg] at C3
          have dg0 : ((g : Int) != 0) = true := by simp; omega
          have C5 := Lib.hid fun (w : World) => gfits_any (a := g) (b := p0) (w := w) hg1.2 hI.out.2.2.2.2.2
          have HP := Lib.hid hI.out.2.2.2
          clear hc1 hc2 hg
          by_cases hpm : p0 = GM
          · have HNO : Hid (gfold s zs = none) := HDD.out (gst_bad (.inr (.inl ⟨h0, .inl hpm⟩)))
            have dP : ((p0 : Int) == 1125899906842624) = true := by rw [hpm]; rfl
            clear hpm hgc hgb hg1 C5
            go_wp2_with fail
            refine (C3.out _).mono ?_
            rintro e v3 ⟨rfl, rfl⟩
            clear C3
            have c1 := (HXP.out.2.2.2.2.1.below (HB2.out))
            have c2 := (HXP.out.2.2.2.2.2.1.below (HB2.out))
            obtain ⟨c1a, c1b, c1c⟩ := c1
            obtain ⟨c2a, c2b, c2c⟩ := c2
            have HBF := Lib.hid (bt HB1.out (HB2.out))
            go_wp2
            refine bodyPost_ret (v := .tuple #[gv (0, 0), .int .i64 13]) (by simp [results, Try.results35, go_sem, c1a, c2a]) rfl ?_
            exact ⟨(0, 0), 13, rfl, .inr ⟨rfl, rfl, HNO.out⟩, below_cells2 HBF.out (by have := HXP.out.2.2.2.2.2.2.2; omega)⟩
          · have dP : ((p0 : Int) == 1125899906842624) = false := by simp; unfold GM at hpm; omega
            by_cases hf : g * p0 < GM
            · rw [show gfits g p0 = true from decide_eq_true hf] at C5
              have hcs : cv.natAbs < GM := by
                rcases Nat.lt_or_ge cv.natAbs GM with h | h
                · exact h
                · rw [hgb (by omega)] at hf
                  have := Nat.le_mul_of_pos_right GM (show 0 < p0 by have := HP.out.2.1; omega)
                  omega
              obtain ⟨t, ht⟩ : ∃ t : Nat, t = g * p0 := ⟨_, rfl⟩
              have htc : t = cv.natAbs * p0 := by rw [ht, hgc hcs]
              have ht2 : t < GM := by rw [ht]; exact hf
              have hw : IntKind.i64.wrap ((g : Int) * (p0 : Int)) = (t : Int) := by
                have e : (g : Int) * (p0 : Int) = (t : Int) := by rw [ht]; simp
                rw [e, IntKind.wrap_i64]; unfold GM at ht2; omega
              have hw2 : IntKind.i64.wrap ((a0 : Int) + (t : Int)) = (a0 : Int) + (t : Int) := by
                rw [IntKind.wrap_i64]; have := HP.out.1; unfold GM at ht2 this; omega
              by_cases hsum : a0 + t < GM
              · have dS : decide ((1125899906842624 : Int) ≤ (a0 : Int) + (t : Int)) = false := decide_eq_false (by unfold GM at hsum; omega)
                obtain ⟨a2, ha2⟩ : ∃ a2, a2 = a0 + t := ⟨_, rfl⟩
                have HA2 : Hid ((a0 : Int) + (t : Int) = ((a2 : Nat) : Int)) := by show _ = _; omega
                have HG2 : Hid (gfold s (zs.take (i + 1)) = some (a2, gpw s p0) ∧ a2 < GM) := by
                  have e := gst_ok (s := s) (a := a0) (p := p0) (c := cv) hcs (.inr ⟨hpm, by rw [← htc]; exact ht2⟩) (by rw [← htc]; exact hsum)
                  rw [HST.out.1, e, ← htc, ← ha2]
                  exact ⟨rfl, by omega⟩
                have hp := hpm
                clear hsum htc ht ht2 hcs hf hpm hgc hgb hg1 h0 ha2
                go_wp2_with fail
                refine (C3.out _).mono ?_
                rintro e v3 ⟨rfl, rfl⟩
                clear C3
                go_wp2_with fail
                refine (C5.out _).mono ?_
                rintro e v3 ⟨rfl, rfl⟩
                clear C5
                have dQ : ((p0 : Int) != 1125899906842624) = true := by simp; unfold GM at hp; omega
                have C4 := Lib.hid fun (w : World) => gfits_any (a := p0) (b := s) (w := w) hI.out.2.2.2.2.2 HS.out.2.1
                by_cases hf : p0 * s < GM
                · rw [show gfits p0 s = true from decide_eq_true hf] at C4
                  have eq : gpw s p0 = p0 * s := by unfold gpw; rw [if_neg hp, if_pos hf]
                  obtain ⟨q, hq⟩ : ∃ q : Nat, q = p0 * s := ⟨_, rfl⟩
                  have hw : IntKind.i64.wrap ((p0 : Int) * (s : Int)) = (q : Int) := by
                    have e : (p0 : Int) * (s : Int) = (q : Int) := by rw [hq]; simp
                    rw [e, IntKind.wrap_i64]; unfold GM at hf; omega
                  have HEQ : Hid (gpw s p0 = q) := by show _ = _; rw [eq, hq]
                  clear eq hp hf hq
                  go_wp2_with (at_builtin; (refine wpList_appK rfl (.tmp 67) (.tmp 69) rfl elIK rfl rfl (HOW.out.below (belowA _ _)) (RowK.lit (k := 1) (T := 3) (B := 0) v2 1 [.int .i64 cv] (by simp) rfl (by omega) (Nat.zero_le _)).rd (by intro u hu; simp at hu; subst hu; rfl) (by omega) (by omega) (by have := HB2.out.size; simp; omega) ?_); intro A4 c4 w4 ho4 hb4 hg4; have HN : Hid (GXI s zs v1 (i + 1) A4 c4 a2 (gpw s p0) w4) := (⟨(bt HB2.out (belowA _ _)).trans hb4, (by rw [take_snoc HST.out.2, ← zvl_snoc]; exact ho4), HG2.out.1, HG2.out.2, gpw_pos HS.out.1 hI.out.2.2.2.2.1, gpw_le⟩); clear ho4 hb4 hg4)
                  refine (C4.out _).mono ?_
                  rintro e v5 ⟨rfl, rfl⟩
                  clear C4
                  go_wp2
                  go_roundw
                  case rel => exact ⟨i + 1, A4, c4, a2, gpw s p0, HN, by omega, (by rw [HA2.out]), by rw [HEQ.out], rfl, by go_num⟩
                  case measure => simp [intOf]; omega
                · rw [show gfits p0 s = false from decide_eq_false hf] at C4
                  have eq : gpw s p0 = GM := by unfold gpw; rw [if_neg hp, if_neg hf]
                  have HEQ : Hid ((1125899906842624 : Int) = ((gpw s p0 : Nat) : Int)) := by show _ = _; rw [eq]; rfl
                  clear eq hp hf
                  go_wp2_with (at_builtin; (refine wpList_appK rfl (.tmp 67) (.tmp 69) rfl elIK rfl rfl (HOW.out.below (belowA _ _)) (RowK.lit (k := 1) (T := 3) (B := 0) v2 1 [.int .i64 cv] (by simp) rfl (by omega) (Nat.zero_le _)).rd (by intro u hu; simp at hu; subst hu; rfl) (by omega) (by omega) (by have := HB2.out.size; simp; omega) ?_); intro A4 c4 w4 ho4 hb4 hg4; have HN : Hid (GXI s zs v1 (i + 1) A4 c4 a2 (gpw s p0) w4) := (⟨(bt HB2.out (belowA _ _)).trans hb4, (by rw [take_snoc HST.out.2, ← zvl_snoc]; exact ho4), HG2.out.1, HG2.out.2, gpw_pos HS.out.1 hI.out.2.2.2.2.1, gpw_le⟩); clear ho4 hb4 hg4)
                  refine (C4.out _).mono ?_
                  rintro e v5 ⟨rfl, rfl⟩
                  clear C4
                  go_wp2
                  go_roundw
                  case rel => exact ⟨i + 1, A4, c4, a2, gpw s p0, HN, by omega, (by rw [HA2.out]), by rw [← HEQ.out], rfl, by go_num⟩
                  case measure => simp [intOf]; omega
              · have HNO : Hid (gfold s zs = none) := HDD.out (gst_bad (.inr (.inr (by rw [← htc]; exact hsum))))
                have dS : decide ((1125899906842624 : Int) ≤ (a0 : Int) + (t : Int)) = true := decide_eq_true (by unfold GM at hsum; omega)
                clear hsum htc ht ht2 hcs hf hpm hgc hgb hg1 h0
                go_wp2_with fail
                refine (C3.out _).mono ?_
                rintro e v3 ⟨rfl, rfl⟩
                clear C3
                go_wp2_with fail
                refine (C5.out _).mono ?_
                rintro e v3 ⟨rfl, rfl⟩
                clear C5
                have c1 := (HXP.out.2.2.2.2.1.below (HB2.out))
                have c2 := (HXP.out.2.2.2.2.2.1.below (HB2.out))
                obtain ⟨c1a, c1b, c1c⟩ := c1
                obtain ⟨c2a, c2b, c2c⟩ := c2
                have HBF := Lib.hid (bt HB1.out (HB2.out))
                go_wp2
                refine bodyPost_ret (v := .tuple #[gv (0, 0), .int .i64 13]) (by simp [results, Try.results35, go_sem, c1a, c2a]) rfl ?_
                exact ⟨(0, 0), 13, rfl, .inr ⟨rfl, rfl, HNO.out⟩, below_cells2 HBF.out (by have := HXP.out.2.2.2.2.2.2.2; omega)⟩
            · rw [show gfits g p0 = false from decide_eq_false hf] at C5
              have HNO : Hid (gfold s zs = none) := HDD.out (by
                rcases Nat.lt_or_ge cv.natAbs GM with h | h
                · rw [hgc h] at hf
                  exact gst_bad (.inr (.inl ⟨h0, .inr hf⟩))
                · exact gst_bad (.inl h))
              clear hf hpm hgc hgb hg1 h0
              go_wp2_with fail
              refine (C3.out _).mono ?_
              rintro e v3 ⟨rfl, rfl⟩
              clear C3
              go_wp2_with fail
              refine (C5.out _).mono ?_
              rintro e v3 ⟨rfl, rfl⟩
              clear C5
              have c1 := (HXP.out.2.2.2.2.1.below (HB2.out))
              have c2 := (HXP.out.2.2.2.2.2.1.below (HB2.out))
              obtain ⟨c1a, c1b, c1c⟩ := c1
              obtain ⟨c2a, c2b, c2c⟩ := c2
              have HBF := Lib.hid (bt HB1.out (HB2.out))
              go_wp2
              refine bodyPost_ret (v := .tuple #[gv (0, 0), .int .i64 13]) (by simp [results, Try.results35, go_sem, c1a, c2a]) rfl ?_
              exact ⟨(0, 0), 13, rfl, .inr ⟨rfl, rfl, HNO.out⟩, below_cells2 HBF.out (by have := HXP.out.2.2.2.2.2.2.2; omega)⟩
      · have HNO : Hid (gfold s zs = none) := HDD.out (gst_bad (.inl hbig))
        clear hcv hbig
        have c1 := (HXP.out.2.2.2.2.1.below (HB2.out))
        have c2 := (HXP.out.2.2.2.2.2.1.below (HB2.out))
        obtain ⟨c1a, c1b, c1c⟩ := c1
        obtain ⟨c2a, c2b, c2c⟩ := c2
        have HBF := Lib.hid (bt HB1.out (HB2.out))
        go_wp2
        refine bodyPost_ret (v := .tuple #[gv (0, 0), .int .i64 13]) (by simp [results, Try.results35, go_sem, c1a, c2a]) rfl ?_
        exact ⟨(0, 0), 13, rfl, .inr ⟨rfl, rfl, HNO.out⟩, below_cells2 HBF.out (by have := HXP.out.2.2.2.2.2.2.2; omega)⟩
    · obtain rfl : i = n1 := by omega
      have htk : zs.take i = zs := List.take_of_length_le (by have := HXP.out.2.1; omega)
      have HF : Hid (∃ st, gfold s zs = some st) := ⟨_, by rw [← hI.out.2.2.1, htk]⟩
      have HWS : Hid (wsum s zs < GM) := by
        obtain ⟨st, h⟩ := HF.out
        exact gfold_wsum HS.out.1 h
      have HLZ : Hid (i = zs.length) := HXP.out.2.1
      have e0 := (HXP.out.2.2.1.below hI.out.1).1
      have e1 := (HXP.out.2.2.2.1.below hI.out.1).1
      go_wp2_with fail
      refine (CI.out _).mono ?_
      rintro e v6 ⟨ca, cb, rfl, hcx, hb6⟩
      have HOW : Hid (RowK 1 3 v1.heap.size v6 A' i c' (zvl zs)) := by
        have h := hI.out.2.1.below hb6
        rw [htk] at h
        exact h
      have HB6 := Lib.hid (bt hI.out.1 hb6)
      clear e0 e1 hI hb6 CI htk hlt HZ
      go_wp2
      go_loopw [16, 18] (fun vv kv wr => ∃ (m : Nat) (p q : Nat), Hid (IsC p q (gev (zs.drop m) (zx, zy))) ∧ m ≤ i ∧ vv = .complex .f64 p q ∧ kv = .int .i64 ((m : Int) - 1) ∧ wr = v6) (fun _ kv _ => (intOf kv + 1).toNat)
      case atStart => exact ⟨i, 0, 0, by
        show IsC 0 0 (gev (zs.drop i) (zx, zy))
        rw [List.drop_of_length_le (by rw [HLZ.out]; exact Nat.le_refl _)]
        exact ⟨IsW.zero, IsW.zero⟩, Nat.le_refl _, rfl, rfl, rfl⟩
      case round =>
        obtain ⟨m, p, q, hv, hm, rfl, rfl, rfl⟩ := hrel
        rcases m with _ | m
        · rw [show (((0 : Nat) : Int) - 1) = -1 from rfl]
          have hsz : gsz (gev zs (zx, zy)) < GM := Nat.lt_of_le_of_lt (gsz_gev HS.out.2.2 zs) HWS.out
          have CO := Lib.hid fun (w : World) => goutside_any (w := w) (show IsC p q (gev zs (zx, zy)) from hv.out) (G64.of hsz)
          generalize hgz : gev zs (zx, zy) = gz at CO
          obtain ⟨g1, g2⟩ := gz
          have HGZ := Lib.hid hgz
          clear hgz hsz
          go_wp2_with fail
          refine (CO.out _).mono ?_
          rintro e v7 ⟨rfl, hb7⟩
          have HB7 := Lib.hid (bt HB6.out hb7)
          clear hb7 CO
          have c1 := (HXP.out.2.2.2.2.1.below HB7.out)
          have c2 := (HXP.out.2.2.2.2.2.1.below HB7.out)
          obtain ⟨c1a, c1b, c1c⟩ := c1
          obtain ⟨c2a, c2b, c2c⟩ := c2
          have HBF := Lib.hid (bt HB1.out HB7.out)
          go_wp2
          refine bodyPost_ret (v := .tuple #[gv (g1, g2), .int .i64 0]) (by simp [results, Try.results35, go_sem, c1a, c2a]) rfl ?_
          exact ⟨(g1, g2), 0, rfl, .inl ⟨rfl, HGZ.out.symm, HF.out⟩, below_cells2 HBF.out (by have := HXP.out.2.2.2.2.2.2.2; omega)⟩
        · rw [show (((m + 1 : Nat) : Int) - 1) = (m : Int) by omega]
          have hmz : m < zs.length := by have := HLZ.out; omega
          obtain ⟨g, rfl, hg1, hg2⟩ := HOW.out.form (by omega)
          have hcell := HOW.out.cell (i := m) (by omega)
          have hval : (zvl zs)[m]? = some (.int .i64 (zn zs m)) := by
            unfold zvl
            rw [List.getElem?_map, List.getElem?_eq_getElem hmz, zn_of (List.getElem?_eq_getElem hmz)]; rfl
          rw [hval] at hcell
          have hcz : (zn zs m).natAbs < GM ∧ gsz (gev (zs.drop m) (zx, zy)) < GM ∧ gsz (gev (zs.drop (m + 1)) (zx, zy)) * gsz (zx, zy) < GM := by
            have h1 := wsum_drop HS.out.1 zs m
            have h2 := gsz_gev HS.out.2.2 (zs.drop m)
            have h3 := wsum_step HS.out.1 hmz
            have h4 := gsz_gev HS.out.2.2 (zs.drop (m + 1))
            have h5 : (zn zs m).natAbs ≤ wsum s (zs.drop m) := by
              rw [List.drop_eq_getElem_cons hmz, zn_of (List.getElem?_eq_getElem hmz)]
              exact Nat.le_add_right _ _
            have h6 := Nat.mul_le_mul h4 HS.out.2.2
            rw [Nat.mul_comm (wsum s _) s] at h6
            have h7 := HWS.out
            exact ⟨by omega, by omega, by omega⟩
          have hstep : gev (zs.drop m) (zx, zy) = gadd (gmul (gev (zs.drop (m + 1)) (zx, zy)) (zx, zy)) (zn zs m, 0) := by
            rw [List.drop_eq_getElem_cons hmz, zn_of (List.getElem?_eq_getElem hmz)]; rfl
          obtain ⟨re, im, hop1, k1⟩ := IsC.prod hv.out hcx.out (by have h := gmul_parts (gev (zs.drop (m + 1)) (zx, zy)) (zx, zy); unfold GM at hcz; omega) (by have h := gmul_parts (gev (zs.drop (m + 1)) (zx, zy)) (zx, zy); unfold GM at hcz; omega)
          have kz : IsC (floatOfInt .f64 (zn zs m)) 0 (zn zs m, 0) := ⟨IsW.int (by unfold GM at hcz; omega), IsW.zero⟩
          have hsum := hcz.2.1
          rw [hstep] at hsum
          obtain ⟨re2, im2, hop2, k2⟩ := IsC.sum k1 kz (by unfold gsz gadd gmul GM at hsum; simp only at hsum ⊢; omega) (by unfold gsz gadd gmul GM at hsum; simp only at hsum ⊢; omega)
          have HK2 : Hid (IsC re2 im2 (gev (zs.drop m) (zx, zy))) := by show IsC _ _ _; rw [hstep]; exact k2
          have r1 := fun t w => run_complex_mul (P := Try.prog) w t p q ca cb re im hop1
          have cv := fun (w : World) => run_convert_int_float (P := Try.prog) w 3 108 .i64 .f64 (zn zs m) (by rw [Try.underlying3]; rfl) Try.underlying108
          generalize floatOfInt .f64 (zn zs m) = fz at *
          have r2 := fun t w => run_complex_sum (P := Try.prog) w .add (Or.inl rfl) t .f64 re im fz 0 re2 im2 hop2
          have i1 : (0 : Int) ≤ (m : Int) := by omega
          have i2 : (m : Int) < (i : Int) := by omega
          generalize zn zs m = zm at *
          clear hop1 hop2 k1 k2 kz hsum hstep hcz hval hv
          go_wp2_with (simp only [r1, r2, cv])
          go_roundw
          case rel => exact ⟨m, re2, im2, HK2, by omega, rfl, rfl, trivial⟩
          case measure => simp [intOf]
end Go.Proofs.Ytphofjinncbaaaa
