/-
  What limb.Add, MulAdd, MulSub give, as lists with their values.
-/
import Derived.Test.YtamfhmmcnlollaaGreatLimbD
import Derived.Test.YtamfhmmcnlollaaGreatMsub
namespace Go.Proofs.YtamfhmmcnlollaaGreat
open Go.RowKit
set_option linter.unusedVariables false

theorem val_snoc (xs : List Nat) (x : Nat) : val W (xs ++ [x]) = val W xs + W ^ xs.length * x := by rw [val_append]; simp [val]
theorem val_wds_lt {n x : Nat} (h : x < W ^ n) : val W (wds W n x) = x := by rw [val_wds, Nat.mod_eq_of_lt h]
theorem val_wds_top (n x : Nat) : val W (wds W n x ++ [x / W ^ n]) = x := by rw [val_snoc, wds_length, val_wds, Nat.mod_add_div]
theorem add_pack {xs ys : List Nat} {n m : Nat} (hx : All W xs) (hy : All W ys) (hn : xs.length = n) (hm : ys.length = m) (bn : n ≤ 4294967296) (bm : m ≤ 4294967296) : ∃ (S : List Nat) (c : Nat), S.length = max n m ∧ All W S ∧ c < W ∧ val W (S ++ [c]) = val W xs + val W ys ∧
    (∀ ⦃A A2 : Option Addr⦄ ⦃c1 c2 : Nat⦄ ⦃w : World⦄, Rd .u64 w A n c1 xs → Rd .u64 w A2 m c2 ys → Calls Tryz.prog 142 #[.slice A n c1, .slice A2 m c2] w (Gives2 .u64 41 w S (.int .u64 (c : Int)))) := by
  refine ⟨_, _, wds_length _ _, wds_all W_pos _ _, ?_, val_wds_top _ _, fun _ _ _ _ _ h h' => ladd_any _ _ _ _ _ _ _ _ _ h h' hx hy (by omega) (by omega)⟩
  have a := val_lt hx
  have b := val_lt hy
  rw [hn] at a
  rw [hm] at b
  exact carry_lt a b
theorem msub_pack {xs ys : List Nat} {n m q : Nat} (hx : All W xs) (hy : All W ys) (hn : xs.length = n) (hm : ys.length = m) (hq : q < W) (hmn : m ≤ n) (bn : n ≤ 4294967296) : ∃ (S : List Nat) (v : Nat), S.length = n ∧ All W S ∧ v < W ∧ val W S + val W ys * q = val W xs + W ^ n * v ∧
    (∀ ⦃A A2 : Option Addr⦄ ⦃c1 c2 : Nat⦄ ⦃w : World⦄, Rd .u64 w A n c1 xs → Rd .u64 w A2 m c2 ys → Calls Tryz.prog 172 #[.slice A n c1, .slice A2 m c2, .int .u64 (q : Int)] w (Gives3 .u64 41 w S (.int .u64 (v : Int)) (.int .i64 0))) := by
  have a := val_lt hx
  have b := val_lt hy
  rw [hn] at a
  rw [hm] at b
  have hok := msb_ok (x := val W xs) (p := val W ys * q) (Nat.pow_pos (n := n) W_pos)
  have hlt : val W xs + W ^ n * msb (val W xs) (val W ys * q) (W ^ n) - val W ys * q < W ^ n := by
    by_cases h : val W ys * q ≤ val W xs
    · rw [msb_le (Nat.pow_pos W_pos) h]; omega
    · have e := Nat.div_add_mod (val W ys * q - val W xs) (W ^ n)
      have hp := Nat.pow_pos (n := n) W_pos
      rcases Nat.eq_zero_or_pos ((val W ys * q - val W xs) % W ^ n) with h0 | h0
      · rw [msb_q hp h0]; omega
      · rw [msb_q1 hp h0, Nat.mul_succ]; omega
  refine ⟨_, _, wds_length n _, wds_all W_pos _ _, msb_lt b hq hmn, ?_, fun _ _ _ _ _ h h' => lmulSub_any h h' hx hy rfl hq hmn (by omega)⟩
  rw [val_wds_lt hlt]
  omega
end Go.Proofs.YtamfhmmcnlollaaGreat
