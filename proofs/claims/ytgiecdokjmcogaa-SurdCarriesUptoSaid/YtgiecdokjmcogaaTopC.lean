/-
  surdtop.shiftsBack.
-/
import Derived.Test.YtgiecdokjmcogaaTopB
namespace Go.Proofs.Ytgiecdokjmcogaa
open Go.RowKit
set_option linter.unusedVariables false

theorem nb_le_of {x s : Nat} (h : x < 2 ^ s) : nb x ≤ s := by
  by_cases h0 : x = 0
  · subst h0; simp [nb]
  · have := nb_le (x := x) (by omega)
    have h2 : 2 ^ (nb x - 1) < 2 ^ s := by omega
    have := (Nat.pow_lt_pow_iff_right (show 1 < 2 by omega)).1 h2
    omega
theorem nb_shl {x s : Nat} (h : 0 < x) : nb (x * 2 ^ s) = nb x + s := by
  obtain ⟨h1, h2⟩ := nb_le h
  obtain ⟨k, hk⟩ : ∃ k, nb x = k + 1 := ⟨nb x - 1, by omega⟩
  have h3 := nb_lt x
  rw [hk] at h1 h3 ⊢
  have := two_pos s
  rw [show k + 1 + s = (k + s) + 1 by omega]
  refine nb_uniq ?_ ?_
  · rw [Nat.pow_add]
    exact Nat.mul_le_mul_right _ (by simpa using h1)
  · rw [show k + s + 1 = (k + 1) + s by omega, Nat.pow_add]
    exact (Nat.mul_lt_mul_right this).2 h3
theorem clampI_nat (z lo hi : Int) (h0 : 0 ≤ lo) (h1 : lo ≤ hi) : ∃ s : Nat, clampI z lo hi = (s : Int) ∧ lo ≤ (s : Int) ∧ (s : Int) ≤ hi := by
  refine ⟨(clampI z lo hi).toNat, ?_⟩
  unfold clampI
  split
  · omega
  · split <;> omega
theorem own_zero {w : World} {t : TypeId} {B n c x : Nat} {A : Option Addr} (h : Own .u64 t B w A n c (dg W x)) : (n = 0 ↔ x = 0) := by
  have := h.len
  constructor
  · intro h0
    exact (dg_nil_iff W_gt).1 (List.eq_nil_of_length_eq_zero (by omega))
  · intro h0
    rw [h0, dg_zero W_gt] at this
    simpa using this.symm

set_option maxHeartbeats 4000000 in
set_option maxRecDepth 100000 in
theorem shiftsBack_any {v : Value} {x L : Nat} {z : Int} {w : World} (h : Num w v x L) (hL : L ≤ 2097152) :
    Calls Try.prog 61 #[v, .int .i64 z] w (Keeps (.bool true) w) := by
  obtain ⟨s, es, s0, s1⟩ := clampI_nat z 0 1000 (by omega) (by omega)
  have C0 := Lib.hid (clamp_any (n := z) (lo := 0) (hi := 1000) (w := w))
  rw [es] at C0
  have hs : s ≤ 1000 := by omega
  have hs64 : s / 64 ≤ 15 := by omega
  have H := Lib.hid h
  have HDIV : Hid (x * 2 ^ s / 2 ^ s = x) := Nat.mul_div_cancel _ (two_pos s)
  have HDM : Hid (x / 2 ^ s * 2 ^ s + x % 2 ^ s = x) := by show _ = _; rw [Nat.mul_comm]; exact Nat.div_add_mod _ _
  have hnb := nb_le_of (Nat.mod_lt x (two_pos s))
  have HSH : Hid (0 < x → nb (x * 2 ^ s) = nb x + s) := fun h => nb_shl h
  have hnbl : nb x ≤ 64 * L := nb_le_of (by rw [← W_pow2]; exact h.lt)
  have HZ : Hid (x * 2 ^ s = 0 → x = 0) := by
    intro h0
    rcases Nat.mul_eq_zero.1 h0 with h1 | h1
    · exact h1
    · have := two_pos s; omega
  clear h es s0 s1
  go_enter Try.func61, Try.ntmps61
  go_wp2_with fail
  refine (C0.out).mono ?_
  rintro e w' ⟨rfl, rfl⟩
  go_wp2_with fail
  refine (copyN_any H.out (by omega)).mono ?_
  rintro e w2 ⟨A_ca, n_ca, c_ca, xs_ca, rfl, o_ca, a_ca, v_ca, hb2, l_ca⟩
  have V_ca := Lib.hid v_ca
  clear v_ca
  go_wp2_with fail
  refine (nshl_any (o_ca.numv a_ca V_ca.out l_ca) rfl (by omega) (by omega)).mono ?_
  rintro e w3 ⟨A_up, n_up, c_up, rfl, o_up, hb3, l_up⟩
  go_wp2_with fail
  refine (copyN_any (o_up.num l_up) (by omega)).mono ?_
  rintro e w4 ⟨A_cu, n_cu, c_cu, xs_cu, rfl, o_cu, a_cu, v_cu, hb4, l_cu⟩
  have V_cu := Lib.hid v_cu
  clear v_cu
  go_wp2_with fail
  refine (nshr_any (o_cu.numv a_cu V_cu.out l_cu) rfl (by omega) (by omega)).mono ?_
  rintro e w5 ⟨A_down, n_down, c_down, rfl, o_down, hb5, l_down⟩
  rw [HDIV.out] at o_down
  go_wp2_with fail
  refine (copyN_any ((((H.out.below hb2).below hb3).below hb4).below hb5) (by omega)).mono ?_
  rintro e w6 ⟨A_ca2, n_ca2, c_ca2, xs_ca2, rfl, o_ca2, a_ca2, v_ca2, hb6, l_ca2⟩
  have V_ca2 := Lib.hid v_ca2
  clear v_ca2
  go_wp2_with fail
  refine (ncut_any (o_ca2.numv a_ca2 V_ca2.out l_ca2) rfl (by omega) (by omega)).mono ?_
  rintro e wc ⟨A_high, n_high, c_high, A_low, n_low, c_low, rfl, o_high, o_low, hbc, l_high, l_low⟩
  have N_high := Lib.hid (o_high.num l_high)
  have N_low := Lib.hid (o_low.num l_low)
  go_wp2_with fail
  refine (copyN_any ((((((H.out.below hb2).below hb3).below hb4).below hb5).below hb6).below hbc) (by omega)).mono ?_
  rintro e w7 ⟨A_ca3, n_ca3, c_ca3, xs_ca3, rfl, o_ca3, a_ca3, v_ca3, hb7, l_ca3⟩
  have V_ca3 := Lib.hid v_ca3
  clear v_ca3
  go_wp2_with fail
  refine (nnorm_any (o_ca3.numv a_ca3 V_ca3.out l_ca3) (by omega)).mono ?_
  rintro e w8 ⟨A_na, n_na, c_na, rfl, o_na, hb8, l_na⟩
  go_wp2_with fail
  refine (sameT_yes ((((o_down.rd.below hb6).below hbc).below hb7).below hb8) o_na.rd rfl (by omega)).mono ?_
  rintro e w9 ⟨rfl, hb9⟩
  have db : decide ((s : Int) < ((nb (x % 2 ^ s) : Nat) : Int)) = false := by simp; omega
  have db2 : decide (s < nb (x % 2 ^ s)) = false := by simp; omega
  go_wp2_with fail
  refine (nbits_any (((N_low.out.below hb7).below hb8).below hb9) (by omega)).mono ?_
  rintro e w' ⟨rfl, rfl⟩
  clear hnb
  by_cases hu : 0 < n_up
  · have hx0 : 0 < x := by
      rcases Nat.eq_zero_or_pos x with h0 | h0
      · exfalso
        have := (own_zero o_up).2 (by rw [h0]; simp)
        omega
      · exact h0
    have d0 : decide (0 < n_up) = true := by simpa using hu
    have HSH2 := Lib.hid (HSH.out hx0)
    have en : (((nb x + s : Nat) : Int) != ((nb x : Int) + (s : Int))) = false := by simp
    clear HSH hu hx0
    go_wp2_with fail
    refine (copyN_any ((((((((o_up.num l_up).below hb4).below hb5).below hb6).below hbc).below hb7).below hb8).below hb9) (by omega)).mono ?_
    rintro e w11 ⟨A_cu2, n_cu2, c_cu2, xs_cu2, rfl, o_cu2, a_cu2, v_cu2, hb11, l_cu2⟩
    have V_cu2 := Lib.hid v_cu2
    clear v_cu2
    go_wp2_with fail
    have CB := Lib.hid (nbits_any (w := w11) (o_cu2.numv a_cu2 V_cu2.out l_cu2) (by omega))
    rw [HSH2.out] at CB
    refine CB.out.mono ?_
    rintro e w' ⟨rfl, rfl⟩
    go_wp2_with fail
    refine (copyN_any ((((((((((H.out.below hb2).below hb3).below hb4).below hb5).below hb6).below hbc).below hb7).below hb8).below hb9).below hb11) (by omega)).mono ?_
    rintro e w12 ⟨A_ca5, n_ca5, c_ca5, xs_ca5, rfl, o_ca5, a_ca5, v_ca5, hb12, l_ca5⟩
    have V_ca5 := Lib.hid v_ca5
    clear v_ca5
    go_wp2_with fail
    refine (nbits_any (o_ca5.numv a_ca5 V_ca5.out l_ca5) (by omega)).mono ?_
    rintro e w' ⟨rfl, rfl⟩
    go_wp2_with fail
    refine (nshl_any (((((N_high.out.below hb7).below hb8).below hb9).below hb11).below hb12) rfl (by omega) (by omega)).mono ?_
    rintro e w14 ⟨A_back, n_back, c_back, rfl, o_back, hb14, l_back⟩
    go_wp2_with fail
    refine (nadd_any (o_back.num l_back) ((((((N_low.out.below hb7).below hb8).below hb9).below hb11).below hb12).below hb14) (by omega) (by omega)).mono ?_
    rintro e w15 ⟨A_sum, n_sum, c_sum, rfl, o_sum, hb15, l_sum⟩
    go_wp2_with fail
    refine (copyN_any (((((((((((((H.out.below hb2).below hb3).below hb4).below hb5).below hb6).below hbc).below hb7).below hb8).below hb9).below hb11).below hb12).below hb14).below hb15) (by omega)).mono ?_
    rintro e w16 ⟨A_ca4, n_ca4, c_ca4, xs_ca4, rfl, o_ca4, a_ca4, v_ca4, hb16, l_ca4⟩
    have V_ca4 := Lib.hid v_ca4
    clear v_ca4
    go_wp2_with fail
    refine (nnorm_any (o_ca4.numv a_ca4 V_ca4.out l_ca4) (by omega)).mono ?_
    rintro e w17 ⟨A_na4, n_na4, c_na4, rfl, o_na4, hb17, l_na4⟩
    go_wp2_with fail
    refine (sameT_yes ((o_sum.rd.below hb16).below hb17) o_na4.rd (by rw [HDM.out]) (by omega)).mono ?_
    rintro e w18 ⟨rfl, hb18⟩
    go_wp2
    go_ret
    exact ⟨rfl, (bt (bt (bt (bt (bt (bt (bt (bt (bt (bt (bt (bt (bt (bt (bt hb2 hb3) hb4) hb5) hb6) hbc) hb7) hb8) hb9) hb11) hb12) hb14) hb15) hb16) hb17) hb18)⟩
  · have d0 : decide (0 < n_up) = false := by simpa using hu
    clear hu
    go_wp2_with fail
    refine (nshl_any (((N_high.out.below hb7).below hb8).below hb9) rfl (by omega) (by omega)).mono ?_
    rintro e w19 ⟨A_back, n_back, c_back, rfl, o_back, hb19, l_back⟩
    go_wp2_with fail
    refine (nadd_any (o_back.num l_back) ((((N_low.out.below hb7).below hb8).below hb9).below hb19) (by omega) (by omega)).mono ?_
    rintro e w20 ⟨A_sum, n_sum, c_sum, rfl, o_sum, hb20, l_sum⟩
    go_wp2_with fail
    refine (copyN_any (((((((((((H.out.below hb2).below hb3).below hb4).below hb5).below hb6).below hbc).below hb7).below hb8).below hb9).below hb19).below hb20) (by omega)).mono ?_
    rintro e w21 ⟨A_ca4, n_ca4, c_ca4, xs_ca4, rfl, o_ca4, a_ca4, v_ca4, hb21, l_ca4⟩
    have V_ca4 := Lib.hid v_ca4
    clear v_ca4
    go_wp2_with fail
    refine (nnorm_any (o_ca4.numv a_ca4 V_ca4.out l_ca4) (by omega)).mono ?_
    rintro e w22 ⟨A_na4, n_na4, c_na4, rfl, o_na4, hb22, l_na4⟩
    go_wp2_with fail
    refine (sameT_yes ((o_sum.rd.below hb21).below hb22) o_na4.rd (by rw [HDM.out]) (by omega)).mono ?_
    rintro e w23 ⟨rfl, hb23⟩
    go_wp2
    go_ret
    exact ⟨rfl, (bt (bt (bt (bt (bt (bt (bt (bt (bt (bt (bt (bt (bt hb2 hb3) hb4) hb5) hb6) hbc) hb7) hb8) hb9) hb19) hb20) hb21) hb22) hb23)⟩
end Go.Proofs.Ytgiecdokjmcogaa
