/-
  nat.Sub below 0, Diff, IsNorm, Shl, Shr, Cut.
-/
import Derived.Test.YtamfhmmcnlollaaGreatNatB
namespace Go.Proofs.YtamfhmmcnlollaaGreat
open Go.RowKit
set_option linter.unusedVariables false
/-- two of them, and an error's number -/
def GN2E (w : World) (x L y M : Nat) (er : Int) (e : Ending) (w' : World) : Prop :=
  ∃ A n c A2 n2 c2, e = .returned (.tuple #[.slice A n c, .slice A2 n2 c2, .int .i64 er]) ∧ Own .u64 41 w.heap.size w' A n c (dg W x) ∧ Own .u64 41 w.heap.size w' A2 n2 c2 (dg W y) ∧ Below w.heap.size w w' ∧ n ≤ L ∧ n2 ≤ M
theorem norm_top {xs : List Nat} (h : Norm xs) (hn : 0 < xs.length) : nth xs (xs.length - 1) ≠ 0 := by
  rcases snoc_cases xs with rfl | ⟨ys, y, rfl⟩
  · simp at hn
  · intro hy
    have hy0 : y = 0 := by simpa [nth] using hy
    subst hy0
    unfold Norm at h
    rw [strip_snoc_zero] at h
    have := strip_length_le ys
    rw [h] at this
    simp at this
    omega
theorem shlLen_le {n s : Nat} : shlLen n s ≤ n + s / 64 + 1 := by unfold shlLen; split <;> omega
theorem shl_fit {x n s : Nat} (h : x < W ^ n) : x * 2 ^ s < W ^ shlLen n s := by
  rw [two_split s]
  have h1 : 2 ^ (s % 64) < W := show 2 ^ (s % 64) < 2 ^ 64 from Nat.pow_lt_pow_right (by omega) (by omega)
  unfold shlLen
  by_cases h0 : 0 < s % 64
  · rw [if_pos h0, Nat.pow_succ, Nat.pow_add]
    have : x * 2 ^ (s % 64) < W ^ n * W := Nat.mul_lt_mul'' h h1
    have hp := Nat.pow_pos (n := s / 64) W_pos
    have h2 := (Nat.mul_lt_mul_right hp).2 this
    rw [← Nat.mul_assoc]
    refine Nat.lt_of_lt_of_eq h2 ?_
    rw [Nat.mul_assoc, Nat.mul_comm W, Nat.mul_assoc]
  · rw [if_neg h0, show s % 64 = 0 by omega, Nat.pow_zero, Nat.one_mul, Nat.add_zero, Nat.pow_add]
    exact (Nat.mul_lt_mul_right (Nat.pow_pos W_pos)).2 h
set_option maxHeartbeats 1000000 in
theorem nshl_any {v : Value} {x L s : Nat} {s' : Int} {w : World} (h : Num w v x L) (es : s' = (s : Int)) (hs : s ≤ 1048576) (hL : L ≤ 4294967296) :
    Calls Tryz.prog 169 #[v, .int .i64 s'] w (GNE w (x * 2 ^ s) (L + s / 64 + 1) 0) := by
  subst es
  have d1 : decide ((s : Int) < 0) = false := by simp
  have d2 : decide (1048576 < (s : Int)) = false := by simp; omega
  have C1 := Lib.hid (trimN_any h (by omega))
  have HF := Lib.hid fun (n : Nat) (hn : x < W ^ n) => shl_fit (s := s) hn
  have HV := Lib.hid (dg_val W_gt x)
  have HA := Lib.hid (dg_all W_gt x)
  clear h
  go_enter Tryz.func169, Tryz.ntmps169
  go_wp2_with fail
  refine C1.out.mono ?_
  rintro e w1 ⟨A1, n1, c1, rfl, o1, hb1, l1⟩
  have hx1 : x < W ^ n1 := by
    have := val_lt HA.out
    rw [o1.len, HV.out] at this
    exact this
  have hf := Lib.hid (HF.out n1 hx1)
  have C2 := Lib.hid (lshl_any o1.rd HA.out rfl hs (by omega))
  rw [HV.out] at C2
  have hsl : shlLen n1 s ≤ n1 + s / 64 + 1 := shlLen_le
  clear o1 C1 HF hx1
  generalize x * 2 ^ s = y at *
  go_wp2_with fail
  refine C2.out.mono ?_
  rintro e w2 ⟨A2, n2, c2, rfl, o2, hb2⟩
  have hn2 : n2 ≤ shlLen n1 s := by rw [← o2.len, wds_length]; exact Nat.le_refl _
  have hn3 : shlLen n1 s ≤ n2 := by rw [← o2.len, wds_length]; exact Nat.le_refl _
  have C3 := Lib.hid (nown_any (w := w2) (o2.numv (wds_all W_pos _ _) (by rw [val_wds, Nat.mod_eq_of_lt hf.out]) (Nat.le_refl _)) (by omega))
  clear o2
  go_wp2_with fail
  refine C3.out.mono ?_
  rintro e w3 ⟨A3, n3, c3, rfl, o3, hb3, l3⟩
  have B2 := Lib.hid (bt hb1 hb2)
  go_wp2
  go_ret2
  exact ⟨_, _, _, rfl, o3.mono B2.out.size, bt B2.out hb3, by omega⟩
theorem shr_fit {x n s : Nat} (h : x < W ^ n) : x / 2 ^ s < W ^ (n - s / 64) := by
  refine Nat.div_lt_of_lt_mul ?_
  by_cases hn : s / 64 ≤ n
  · refine Nat.lt_of_lt_of_le h ?_
    have e : W ^ n = W ^ (s / 64) * W ^ (n - s / 64) := by rw [← Nat.pow_add]; congr 1; omega
    rw [e, two_split s]
    refine Nat.mul_le_mul_right _ ?_
    have := two_pos (s % 64)
    exact Nat.le_mul_of_pos_left _ this
  · rw [show n - s / 64 = 0 by omega, Nat.pow_zero, Nat.mul_one]
    refine Nat.lt_of_lt_of_le h ?_
    rw [W_pow2]
    exact Nat.pow_le_pow_right (by omega) (by omega)
set_option maxHeartbeats 1000000 in
theorem nshr_any {v : Value} {x L s : Nat} {s' : Int} {w : World} (h : Num w v x L) (es : s' = (s : Int)) (hs : s ≤ 9223372036854775807) (hL : L ≤ 4294967296) :
    Calls Tryz.prog 174 #[v, .int .i64 s'] w (GNE w (x / 2 ^ s) L 0) := by
  subst es
  have d1 : decide ((s : Int) < 0) = false := by simp
  obtain ⟨A, n, c, xs, rfl, h1, h2, rfl, h4⟩ := h
  have C1 : Hid (Calls Tryz.prog 189 #[.slice A n c, .int .i64 (s : Int)] w (Gives3 .u64 41 w (wds W (n - s / 64) (val W xs / 2 ^ s)) (.bool (decide (val W xs % 2 ^ s ≠ 0))) (.int .i64 0))) := by
    show Calls _ _ _ _ _
    by_cases hs : s / 64 < n
    · exact lshr_in h1 h2 rfl (by omega) hs
    · exact lshr_out h1 h2 rfl (by omega) (by omega) (by omega)
  have hf := Lib.hid (shr_fit (s := s) (h1.vlt h2))
  have hk : n - s / 64 ≤ L := by omega
  generalize decide (val W xs % 2 ^ s ≠ 0) = bo at *
  generalize val W xs / 2 ^ s = y at *
  generalize n - s / 64 = k at *
  clear h1 h2
  go_enter Tryz.func174, Tryz.ntmps174
  go_wp2_with fail
  refine C1.out.mono ?_
  rintro e w2 ⟨A2, n2, c2, rfl, o2, hb2⟩
  have hn2 : n2 ≤ k := by rw [← o2.len, wds_length]; exact Nat.le_refl _
  have C3 := Lib.hid (nown_any (w := w2) (o2.numv (wds_all W_pos _ _) (by rw [val_wds, Nat.mod_eq_of_lt hf.out]) (Nat.le_refl _)) (by omega))
  clear o2
  go_wp2_with fail
  refine C3.out.mono ?_
  rintro e w3 ⟨A3, n3, c3, rfl, o3, hb3, l3⟩
  go_wp2
  go_ret2
  exact ⟨_, _, _, rfl, o3.mono hb2.size, bt hb2 hb3, by omega⟩
end Go.Proofs.YtamfhmmcnlollaaGreat
