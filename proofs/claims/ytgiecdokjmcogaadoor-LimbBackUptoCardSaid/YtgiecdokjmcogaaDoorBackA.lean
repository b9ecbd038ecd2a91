/-
  LimbBack's numbers: what each call of limb gives, as lists with their values.
-/
import Derived.Test.YtgiecdokjmcogaaDoorLookL
import Derived.Test.YtgiecdokjmcogaaDoorShC
import Derived.Test.YtgiecdokjmcogaaDoorMsub
import Derived.Test.YtgiecdokjmcogaaDoorMsubR
namespace Go.Proofs.YtgiecdokjmcogaaDoor
open Go.RowKit
set_option linter.unusedVariables false

theorem val_snoc (xs : List Nat) (x : Nat) : val W (xs ++ [x]) = val W xs + W ^ xs.length * x := by rw [val_append]; simp [val]
theorem val_wds_lt {n x : Nat} (h : x < W ^ n) : val W (wds W n x) = x := by rw [val_wds, Nat.mod_eq_of_lt h]
theorem val_wds_top (n x : Nat) : val W (wds W n x ++ [x / W ^ n]) = x := by rw [val_snoc, wds_length, val_wds, Nat.mod_add_div]
theorem add_pack {xs ys : List Nat} {n m : Nat} (hx : All W xs) (hy : All W ys) (hn : xs.length = n) (hm : ys.length = m) (bn : n ≤ 4294967296) (bm : m ≤ 4294967296) : ∃ (S : List Nat) (c : Nat), S.length = max n m ∧ All W S ∧ c < W ∧ val W (S ++ [c]) = val W xs + val W ys ∧
    (∀ ⦃A A2 : Option Addr⦄ ⦃c1 c2 : Nat⦄ ⦃w : World⦄, Rd .u64 w A n c1 xs → Rd .u64 w A2 m c2 ys → Calls Tryd.prog 18 #[.slice A n c1, .slice A2 m c2] w (Gives2 .u64 22 w S (.int .u64 (c : Int)))) := by
  refine ⟨_, _, wds_length _ _, wds_all W_pos _ _, ?_, val_wds_top _ _, fun _ _ _ _ _ h h' => ladd_any _ _ _ _ _ _ _ _ _ h h' hx hy (by omega) (by omega)⟩
  have a := val_lt hx
  have b := val_lt hy
  rw [hn] at a
  rw [hm] at b
  exact carry_lt a b
theorem sub_pack {zs ys : List Nat} {n m X : Nat} (hz : All W zs) (hy : All W ys) (hn : zs.length = n) (hm : ys.length = m) (bn : n ≤ 4294967296) (bm : m ≤ 4294967296) (hv : val W zs = X + val W ys) : ∃ (S : List Nat), S.length = max n m ∧ All W S ∧ val W S = X ∧
    (∀ ⦃A A2 : Option Addr⦄ ⦃c1 c2 : Nat⦄ ⦃w : World⦄, Rd .u64 w A n c1 zs → Rd .u64 w A2 m c2 ys → Calls Tryd.prog 19 #[.slice A n c1, .slice A2 m c2] w (Gives2 .u64 22 w S (.int .u64 0))) := by
  have a := val_lt hz
  rw [hn, hv] at a
  have p : W ^ n ≤ W ^ max n m := Nat.pow_le_pow_right W_pos (by omega)
  have e : brw (val W zs) (val W ys) = 0 := by rw [brw, if_neg (by omega)]
  have e2 : val W zs + W ^ max n m * brw (val W zs) (val W ys) - val W ys = X := by rw [e, hv]; omega
  refine ⟨_, wds_length (max n m) X, wds_all W_pos _ _, val_wds_lt (by omega), fun _ _ _ _ w h h' => ?_⟩
  have := lsub_any _ _ _ _ _ _ _ _ w h h' hz hy (by omega) (by omega)
  rw [e2, e] at this
  exact this
theorem mad_pack {xs : List Nat} {n q c : Nat} (hx : All W xs) (hn : xs.length = n) (hq : q < W) (hc : c < W) (bn : n ≤ 4294967296) : ∃ (P : List Nat) (t : Nat), P.length = n ∧ All W P ∧ t < W ∧ val W (P ++ [t]) = val W xs * q + c ∧
    (∀ ⦃A : Option Addr⦄ ⦃c1 : Nat⦄ ⦃w : World⦄, Rd .u64 w A n c1 xs → Calls Tryd.prog 20 #[.slice A n c1, .int .u64 (q : Int), .int .u64 (c : Int)] w (Gives2 .u64 22 w P (.int .u64 (t : Int)))) := by
  refine ⟨_, _, wds_length _ _, wds_all W_pos _ _, ?_, val_wds_top _ _, fun _ _ _ h => lmulAdd_any h hx rfl hq rfl hc (by omega)⟩
  have a := val_lt hx
  rw [hn] at a
  exact Nat.div_lt_of_lt_mul (mad_lt a hq hc)
theorem div_pack {zs : List Nat} {n q c X : Nat} (hz : All W zs) (hn : zs.length = n) (hq : q < W) (hc : c < q) (bn : n ≤ 4294967296) (hv : val W zs = X * q + c) : ∃ (Q : List Nat), Q.length = n ∧ All W Q ∧ val W Q = X ∧
    (∀ ⦃A : Option Addr⦄ ⦃c1 : Nat⦄ ⦃w : World⦄, Rd .u64 w A n c1 zs → Calls Tryd.prog 21 #[.slice A n c1, .int .u64 (q : Int)] w (Gives3 .u64 22 w Q (.int .u64 (c : Int)) (.int .i64 0))) := by
  have e1 : val W zs / q = X := by rw [hv, Nat.mul_comm, Nat.mul_add_div (by omega), Nat.div_eq_of_lt hc, Nat.add_zero]
  have e2 : val W zs % q = c := by rw [hv, Nat.mul_comm, Nat.mul_add_mod, Nat.mod_eq_of_lt hc]
  have a := val_lt hz
  rw [hn] at a
  have hX : X < W ^ n := by rw [← e1]; exact Nat.lt_of_le_of_lt (Nat.div_le_self _ _) a
  refine ⟨_, wds_length n X, wds_all W_pos _ _, val_wds_lt hX, fun _ _ w h => ?_⟩
  have := divOne_any (y := q) h hz rfl (by omega) hq (by omega)
  rw [e1, e2] at this
  exact this
theorem shl_pack {xs : List Nat} {n s : Nat} (hx : All W xs) (hn : xs.length = n) (hs : s ≤ 5000) (bn : n ≤ 4294967296) : ∃ (S : List Nat), S.length ≤ n + 80 ∧ All W S ∧ val W S = val W xs * 2 ^ s ∧
    (∀ ⦃A : Option Addr⦄ ⦃c1 : Nat⦄ ⦃w : World⦄, Rd .u64 w A n c1 xs → Calls Tryd.prog 22 #[.slice A n c1, .int .i64 (s : Int)] w (Gives2 .u64 22 w S (.int .i64 0))) := by
  refine ⟨_, ?_, wds_all W_pos (shlLen n s) (val W xs * 2 ^ s), val_wds_lt ?_, fun _ _ _ h => lshl_any h hx rfl (by omega) (by omega)⟩
  · rw [wds_length, shlLen]
    split <;> omega
  · have a := val_lt hx
    rw [hn] at a
    rw [two_split s]
    have h1 : 2 ^ (s % 64) < W := show 2 ^ (s % 64) < 2 ^ 64 from Nat.pow_lt_pow_right (by omega) (by omega)
    have hp := Nat.pow_pos (n := s / 64) W_pos
    unfold shlLen
    by_cases h0 : 0 < s % 64
    · rw [if_pos h0, Nat.pow_succ, Nat.pow_add]
      have h2 := (Nat.mul_lt_mul_right hp).2 (Nat.mul_lt_mul'' a h1)
      rw [← Nat.mul_assoc]
      refine Nat.lt_of_lt_of_eq h2 ?_
      rw [Nat.mul_assoc, Nat.mul_comm W, Nat.mul_assoc]
    · rw [if_neg h0, show s % 64 = 0 by omega, Nat.pow_zero, Nat.one_mul, Nat.add_zero, Nat.pow_add]
      exact (Nat.mul_lt_mul_right hp).2 a
theorem shr_pack {zs : List Nat} {n s X : Nat} (hz : All W zs) (hn : zs.length = n) (hs : s ≤ 5000) (bn : n ≤ 4294967296) (hv : val W zs = X * 2 ^ s) : ∃ (S : List Nat), S.length ≤ n ∧ All W S ∧ val W S = X ∧
    (∀ ⦃A : Option Addr⦄ ⦃c1 : Nat⦄ ⦃w : World⦄, Rd .u64 w A n c1 zs → Calls Tryd.prog 23 #[.slice A n c1, .int .i64 (s : Int)] w (Gives3 .u64 22 w S (.bool false) (.int .i64 0))) := by
  have e1 : val W zs / 2 ^ s = X := by rw [hv, Nat.mul_div_cancel _ (two_pos s)]
  have e2 : decide (val W zs % 2 ^ s ≠ 0) = false := by rw [hv, Nat.mul_mod_left]; rfl
  have a := val_lt hz
  rw [hn] at a
  have hX : X < W ^ (n - s / 64) := by
    rw [← e1]
    refine Nat.div_lt_of_lt_mul ?_
    by_cases h : s / 64 ≤ n
    · refine Nat.lt_of_lt_of_le a ?_
      have e : W ^ n = W ^ (s / 64) * W ^ (n - s / 64) := by rw [← Nat.pow_add]; congr 1; omega
      rw [e, two_split s]
      refine Nat.mul_le_mul_right _ ?_
      exact Nat.le_mul_of_pos_left _ (two_pos (s % 64))
    · rw [show n - s / 64 = 0 by omega, Nat.pow_zero, Nat.mul_one]
      refine Nat.lt_of_lt_of_le a ?_
      rw [W_pow2]
      exact Nat.pow_le_pow_right (by omega) (by omega)
  refine ⟨_, ?_, wds_all W_pos (n - s / 64) X, val_wds_lt hX, fun _ _ w h => ?_⟩
  · rw [wds_length]; omega
  · rw [← e1, ← e2]
    by_cases hs2 : s / 64 < n
    · exact lshr_in h hz rfl (by omega) hs2
    · exact lshr_out h hz rfl (by omega) (by omega) (by omega)
theorem msub_pack {xs ys : List Nat} {n m q : Nat} (hx : All W xs) (hy : All W ys) (hn : xs.length = n) (hm : ys.length = m) (hq : q < W) (hmn : m ≤ n) (bn : n ≤ 4294967296) : ∃ (S : List Nat) (v : Nat), S.length = n ∧ All W S ∧ v < W ∧ val W S + val W ys * q = val W xs + W ^ n * v ∧
    (∀ ⦃A A2 : Option Addr⦄ ⦃c1 c2 : Nat⦄ ⦃w : World⦄, Rd .u64 w A n c1 xs → Rd .u64 w A2 m c2 ys → Calls Tryd.prog 24 #[.slice A n c1, .slice A2 m c2, .int .u64 (q : Int)] w (Gives3 .u64 22 w S (.int .u64 (v : Int)) (.int .i64 0))) := by
  have a := val_lt hx
  have b := val_lt hy
  rw [hn] at a
  rw [hm] at b
  have hok := msb_ok (x := val W xs) (p := val W ys * q) (Nat.pow_pos (n := n) W_pos)
  have hlt : val W xs + W ^ n * msb (val W xs) (val W ys * q) (W ^ n) - val W ys * q < W ^ n := by
    by_cases h : val W ys * q ≤ val W xs
    · rw [msb_le (Nat.pow_pos W_pos) h]; omega
    · have e := Nat.div_add_mod (val W ys * q - val W xs) (W ^ n)
      have hp := Nat.pow_pos (n := n) W_pos
      rcases Nat.eq_zero_or_pos ((val W ys * q - val W xs) % W ^ n) with h0 | h0
      · rw [msb_q hp h0]; omega
      · rw [msb_q1 hp h0, Nat.mul_succ]; omega
  refine ⟨_, _, wds_length n _, wds_all W_pos _ _, msb_lt b hq hmn, ?_, fun _ _ _ _ _ h h' => lmulSub_any h h' hx hy rfl hq hmn (by omega)⟩
  rw [val_wds_lt hlt]
  omega
/-- the sum of what is left and what was taken -/
theorem whole_pack {xs ys : List Nat} {n m Z : Nat} (hx : All W xs) (hy : All W ys) (hn : xs.length = n) (hm : ys.length = m) (hmn : m ≤ n) (bn : n ≤ 4294967296) (hZ : val W xs + val W ys = Z) (hZn : Z < W ^ n) : ∃ (S : List Nat), S.length = n ∧ All W S ∧ val W S = Z ∧
    (∀ ⦃A A2 : Option Addr⦄ ⦃c1 c2 : Nat⦄ ⦃w : World⦄, Rd .u64 w A n c1 xs → Rd .u64 w A2 m c2 ys → Calls Tryd.prog 18 #[.slice A n c1, .slice A2 m c2] w (Gives2 .u64 22 w S (.int .u64 0))) := by
  refine ⟨_, wds_length n Z, wds_all W_pos _ _, val_wds_lt hZn, fun _ _ _ _ w h h' => ?_⟩
  have := ladd_any _ _ _ _ _ _ _ _ w h h' hx hy (by omega) (by omega)
  rw [hZ, Nat.max_eq_left hmn, Nat.div_eq_of_lt hZn] at this
  exact this
theorem tzn_shl {x s : Nat} (h : 0 < x) : tzn (x * 2 ^ s) = tzn x + s := by
  obtain ⟨k, hk, _⟩ := Lib.ctzFrom_spec x x h (Nat.lt_two_pow_self)
  have e : tzn x = Lib.ctzFrom x x := by rw [tzn, if_neg (by omega)]
  rw [e]
  generalize Lib.ctzFrom x x = t at *
  refine tzn_uniq (m := k) ?_
  rw [hk, Nat.pow_add, Nat.mul_assoc, Nat.mul_comm (2 * k + 1), Nat.mul_assoc]
theorem nb_shl' {x s : Nat} (h : 0 < x) : nb (x * 2 ^ s) = nb x + s := by
  obtain ⟨h1, h2⟩ := nb_le h
  obtain ⟨k, hk⟩ : ∃ k, nb x = k + 1 := ⟨nb x - 1, by omega⟩
  have h3 := nb_lt x
  rw [hk] at h1 h3 ⊢
  have := two_pos s
  rw [show k + 1 + s = (k + s) + 1 by omega]
  refine nb_uniq ?_ ?_
  · rw [Nat.pow_add]
    exact Nat.mul_le_mul_right _ (by simpa using h1)
  · rw [show k + s + 1 = (k + 1) + s by omega, Nat.pow_add]
    exact (Nat.mul_lt_mul_right this).2 h3
end Go.Proofs.YtgiecdokjmcogaaDoor
