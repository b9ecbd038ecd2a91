/-
  Walks: the program's words: bits.Add64, Sub64, Mul64; limb.AddW, SubW, MulW, at.
-/
import Derived.Test.YtamfhmmcnlollaaGreatNum
import Derived.Test.YtamfhmmcnlollaaGreatRows
import Derived.Laws.Externs
import Derived.Laws.Bits64b
import Derived.Lib.Mul64
namespace Go.Proofs.YtamfhmmcnlollaaGreat
open Go.RowKit
set_option linter.unusedVariables false

theorem maskN (a : Nat) (ha : a < 18446744073709551616) : bits .and .u64 (a : Int) 4294967295 = ((a % 4294967296 : Nat) : Int) := by
  have h := bits_and_u64_nat a 4294967295 ha (by omega)
  have e : a &&& 4294967295 = a % 4294967296 := Nat.and_two_pow_sub_one_eq_mod a 32
  rw [e] at h
  exact h
theorem divN (a : Nat) : (a : Int) / 4294967296 = ((a / 4294967296 : Nat) : Int) := by omega
theorem mulN (a b : Nat) : (a : Int) * (b : Int) = ((a * b : Nat) : Int) := (Int.natCast_mul a b).symm
theorem addN (a b : Nat) : (a : Int) + (b : Int) = ((a + b : Nat) : Int) := (Int.natCast_add a b).symm
theorem wrapN (a : Nat) (ha : a < 18446744073709551616) : IntKind.u64.wrap (a : Int) = (a : Int) := by rw [IntKind.wrap_u64]; omega
theorem wrapM (a : Nat) : IntKind.u64.wrap (a : Int) = ((lo a : Nat) : Int) := by rw [IntKind.wrap_u64, lo, W_eq]; omega

theorem ret_pair {k : IntKind} {a b c d : Int} (h1 : a = b) (h2 : c = d) : Ending.returned (.tuple #[.int k a, .int k c]) = .returned (.tuple #[.int k b, .int k d]) := by rw [h1, h2]
theorem natc {a b : Nat} (h : a = b) : (a : Int) = (b : Int) := by rw [h]

theorem run_add (x y : Nat) (w : World) : (callFunc 184 #[.int .u64 (x : Int), .int .u64 (y : Int), .int .u64 0]).run Tryz.prog w =
    .ok (.value (.tuple #[.int .u64 ((lo (x + y) : Nat) : Int), .int .u64 ((hi (x + y) : Nat) : Int)])) w := by
  rw [run_callFunc_extern Tryz.func184 (by kernel_rfl) (by kernel_rfl) (by kernel_rfl) (e := add64Entry) (by kernel_rfl), run_add64 (x : Int) (y : Int) 0 (by omega) (by omega) (by omega) (by omega)]
  rw [Int.add_zero]
  rfl
def sub64Entry : Array Value → Sem Value := fun args => do
  let (x, y, b) ← Extern.MathBitsCarry.three "Sub64" args
  pure (Extern.MathBitsCarry.pair ((x + Extern.MathBitsCarry.m64 - y - b) % Extern.MathBitsCarry.m64) (if x < y + b then 1 else 0))
/-- the borrow of x - y -/
def brw (x y : Nat) : Nat := if x < y then 1 else 0
/-- the word of x - y -/
def dif (x y : Nat) : Nat := (x + W - y) % W
theorem run_sub (x y : Nat) (w : World) : (callFunc 173 #[.int .u64 (x : Int), .int .u64 (y : Int), .int .u64 0]).run Tryz.prog w =
    .ok (.value (.tuple #[.int .u64 ((dif x y : Nat) : Int), .int .u64 ((brw x y : Nat) : Int)])) w := by
  rw [run_callFunc_extern Tryz.func173 (by kernel_rfl) (by kernel_rfl) (by kernel_rfl) (e := sub64Entry) (by kernel_rfl)]
  rfl

theorem add_words (x y c : Nat) (bx : x < W) (by_ : y < W) (bc : c < W) : lo (lo (x + y) + c) = lo (x + y + c) ∧ IntKind.u64.wrap ((hi (x + y) : Nat) + (hi (lo (x + y) + c) : Nat) : Int) = ((hi (x + y + c) : Nat) : Int) := by
  rw [addN, wrapM]
  unfold lo hi
  rw [W_eq] at *
  refine ⟨by omega, by omega⟩

set_option maxHeartbeats 400000 in
theorem addW_any (x y c : Nat) (w : World) (bx : x < W) (by_ : y < W) (bc : c < W) {x' y' c' : Int} (hx : x' = x) (hy : y' = y) (hc : c' = c) :
    Calls Tryz.prog 163 #[.int .u64 x', .int .u64 y', .int .u64 c'] w fun e w' => e = .returned (.tuple #[.int .u64 ((lo (x + y + c) : Nat) : Int), .int .u64 ((hi (x + y + c) : Nat) : Int)]) ∧ w = w' := by
  subst hx hy hc
  have h1 := run_add x y w
  have h2 := run_add (lo (x + y)) c w
  have HA := Lib.hid (add_words x y c bx by_ bc)
  clear bx by_ bc
  go_enter Tryz.func163, Tryz.ntmps163
  go_wp2
  go_ret2
  exact ⟨ret_pair (natc HA.out.1) HA.out.2, rfl⟩

/-- how often a word is borrowed for x - y - c -/
def borrows (x y c : Nat) : Nat := (y + c - x + W - 1) / W
/-- the word of x - y - c -/
def subw (x y c : Nat) : Nat := (x + 2 * W - y - c) % W
theorem sub_words (x y c : Nat) (bx : x < W) (by_ : y < W) (bc : c < W) : dif (dif x y) c = subw x y c ∧ IntKind.u64.wrap ((brw x y : Nat) + (brw (dif x y) c : Nat) : Int) = ((borrows x y c : Nat) : Int) := by
  rw [addN, wrapM]
  unfold dif brw borrows subw lo
  rw [W_eq] at *
  refine ⟨by omega, ?_⟩
  congr 1
  split <;> split <;> omega
theorem sub_words_eq (x y c : Nat) (bx : x < W) (by_ : y < W) (bc : c < W) : x + W * borrows x y c = subw x y c + y + c ∧ subw x y c < W ∧ borrows x y c ≤ 2 := by
  unfold borrows subw
  rw [W_eq] at *
  omega

set_option maxHeartbeats 400000 in
theorem subW_any (x y c : Nat) (w : World) (bx : x < W) (by_ : y < W) (bc : c < W) {x' y' c' : Int} (hx : x' = x) (hy : y' = y) (hc : c' = c) :
    Calls Tryz.prog 183 #[.int .u64 x', .int .u64 y', .int .u64 c'] w fun e w' => e = .returned (.tuple #[.int .u64 ((subw x y c : Nat) : Int), .int .u64 ((borrows x y c : Nat) : Int)]) ∧ w = w' := by
  subst hx hy hc
  have h1 := run_sub x y w
  have h2 := run_sub (dif x y) c w
  have HA := Lib.hid (sub_words x y c bx by_ bc)
  clear bx by_ bc
  go_enter Tryz.func183, Tryz.ntmps183
  go_wp2
  go_ret2
  exact ⟨ret_pair (natc HA.out.1) HA.out.2, rfl⟩

set_option maxHeartbeats 1000000 in
theorem mul64_any (x y : Nat) (w : World) (bx : x < W) (by_ : y < W) {x' y' : Int} (hx : x' = x) (hy : y' = y) :
    Calls Tryz.prog 182 #[.int .u64 x', .int .u64 y'] w fun e w' => e = .returned (.tuple #[.int .u64 ((hi (x * y) : Nat) : Int), .int .u64 ((lo (x * y) : Nat) : Int)]) ∧ w = w' := by
  subst hx hy
  rw [W_eq] at bx by_
  obtain ⟨bd, bt, bw, hhi⟩ := Lib.mul64_hi x y bx by_
  have ba := Lib.half_mul_le (a := x / 4294967296) (b := y / 4294967296) (by omega) (by omega)
  have bb := Lib.half_mul_le (a := x / 4294967296) (b := y % 4294967296) (by omega) (by omega)
  have bc := Lib.half_mul_le (a := x % 4294967296) (b := y / 4294967296) (by omega) (by omega)
  have ba' : x / 4294967296 * (y / 4294967296) < 18446744073709551616 := by omega
  have bb' : x / 4294967296 * (y % 4294967296) < 18446744073709551616 := by omega
  have bc' : x % 4294967296 * (y / 4294967296) < 18446744073709551616 := by omega
  have bh1 : x / 4294967296 * (y / 4294967296) + (x / 4294967296 * (y % 4294967296) + x % 4294967296 * (y % 4294967296) / 4294967296) / 4294967296 < 18446744073709551616 := by omega
  have bh : x / 4294967296 * (y / 4294967296) + (x / 4294967296 * (y % 4294967296) + x % 4294967296 * (y % 4294967296) / 4294967296) / 4294967296 + ((x / 4294967296 * (y % 4294967296) + x % 4294967296 * (y % 4294967296) / 4294967296) % 4294967296 + x % 4294967296 * (y / 4294967296)) / 4294967296 < 18446744073709551616 := by omega
  have HH := Lib.hid hhi
  clear hhi
  go_enter Tryz.func182, Tryz.ntmps182
  go_wp2
  simp only [maskN x bx, maskN y by_, divN, mulN, addN, wrapN _ bd, wrapN _ bb', wrapN _ bt, maskN _ bt, wrapN _ bc', wrapN _ bw, wrapN _ ba', wrapN _ bh1, wrapN _ bh, wrapM (x * y)]
  rw [HH.out]
  go_ret2
  exact ⟨rfl, rfl⟩

theorem mul_words (x y a b : Nat) (bx : x < W) (by_ : y < W) (ba : a < W) (bb : b < W) : lo (lo (x * y) + a + b) = lo (x * y + a + b) ∧ IntKind.u64.wrap ((hi (x * y) : Nat) + (hi (lo (x * y) + a + b) : Nat) : Int) = ((hi (x * y + a + b) : Nat) : Int) ∧ hi (x * y + a + b) < W := by
  rw [addN, wrapM]
  have h1 : x * y ≤ 18446744073709551615 * 18446744073709551615 := Nat.mul_le_mul (by rw [W_eq] at bx; omega) (by rw [W_eq] at by_; omega)
  unfold lo hi
  rw [W_eq] at *
  generalize x * y = p at *
  refine ⟨by omega, by omega, by omega⟩

set_option maxHeartbeats 400000 in
theorem mulW_any (x y a b : Nat) (w : World) (bx : x < W) (by_ : y < W) (ba : a < W) (bb : b < W) {x' y' a' b' : Int} (hx : x' = x) (hy : y' = y) (ha : a' = a) (hb : b' = b) :
    Calls Tryz.prog 159 #[.int .u64 x', .int .u64 y', .int .u64 a', .int .u64 b'] w fun e w' => e = .returned (.tuple #[.int .u64 ((hi (x * y + a + b) : Nat) : Int), .int .u64 ((lo (x * y + a + b) : Nat) : Int)]) ∧ w = w' := by
  subst hx hy ha hb
  have HA := Lib.hid (mul_words x y a b bx by_ ba bb)
  have c1 := Lib.hid (mul64_any x y w bx by_ rfl rfl)
  have c2 := Lib.hid (addW_any (lo (x * y)) a b w (lo_lt _) ba bb rfl rfl rfl)
  clear bx by_ ba bb
  go_enter Tryz.func159, Tryz.ntmps159
  go_wp2_with (first
    | (go_at_call 182; refine c1.out.mono ?_; rintro e w' ⟨rfl, rfl⟩)
    | (go_at_call 163; refine c2.out.mono ?_; rintro e w' ⟨rfl, rfl⟩))
  go_ret2
  exact ⟨ret_pair HA.out.2.1 (natc HA.out.1), rfl⟩

set_option maxHeartbeats 400000 in
theorem at_any (A : Option Addr) (n c i : Nat) (xs : List Nat) (w : World) (h : Rd .u64 w A n c xs) {i' : Int} (hi' : i' = (i : Int)) (hn : n ≤ 1099511627776) :
    Calls Tryz.prog 164 #[.slice A n c, .int .i64 i'] w fun e w' => e = .returned (.int .u64 ((nth xs i : Nat) : Int)) ∧ w = w' := by
  subst hi'
  by_cases hi : i < n
  · obtain ⟨b, off, rfl, hb, hc⟩ := h.at hi
    go_enter Tryz.func164, Tryz.ntmps164
    go_wp2
    go_ret
    exact ⟨rfl, rfl⟩
  · have hz := nth_ge (xs := xs) (i := i) (by rw [h.len]; omega)
    have HZ := Lib.hid hz
    clear hz
    go_enter Tryz.func164, Tryz.ntmps164
    go_wp2
    go_ret
    exact ⟨ret_int (by rw [HZ.out]; rfl), rfl⟩
end Go.Proofs.YtamfhmmcnlollaaGreat
