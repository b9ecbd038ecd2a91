/-
  MulRing: the laws of products, for all numbers.
-/
import Derived.Test.YtgiecdokjmcogaaRef3C
namespace Go.Proofs.Ytgiecdokjmcogaa
open Go.RowKit
set_option linter.unusedVariables false

theorem awake_sq : dg W (val W [18446744073709551615] * val W [18446744073709551615]) = [1, 18446744073709551614] := by
  have e : val W [18446744073709551615] * val W [18446744073709551615] = val W [1, 18446744073709551614] := by decide
  rw [e]
  exact (norm_dg W_gt (xs := [1, 18446744073709551614]) (by simp [All, W_eq]) (by simp [Norm, strip])).symm

set_option maxHeartbeats 400000 in
theorem awake3_any (w : World) : Calls Try.prog 13 #[] w (Keeps (.bool true) w) := by
  have HQ := Lib.hid awake_sq
  go_enter Try.func13, Try.ntmps13
  go_wp2_with fail
  refine (mul_any ((Num.lit (t := 25) _ [18446744073709551615] (by simp) (by simp [W_eq, All])).below ((Below.refl _ _).alloc (Nat.le_refl _) _)) (Num.lit (t := 25) _ [18446744073709551615] (by simp) (by simp [W_eq, All])) (by decide) (by decide)).mono ?_
  rintro e w1 ⟨A_p, n_p, c_p, rfl, o_p, hb1, l_p⟩
  go_wp2_with fail
  rw [HQ.out] at o_p
  refine (same3_yes (o_p.rd.alloc _) (Rd.litn (k := .u64) (t := 25) _ [1, 18446744073709551614] rfl (by decide)) rfl (by simp at l_p; omega)).mono ?_
  rintro e w2 ⟨rfl, hb2⟩
  go_wp2
  go_ret
  exact ⟨rfl, (bt (bt (bt (bt ((Below.refl _ _).alloc (Nat.le_refl _) _) ((Below.refl _ _).alloc (Nat.le_refl _) _)) hb1) ((Below.refl _ _).alloc (Nat.le_refl _) _)) hb2)⟩

set_option maxHeartbeats 2000000 in
theorem mulRing_any {v u t : Value} {x y z L : Nat} {w : World} (h : Num w v x L) (h' : Num w u y L) (h'' : Num w t z L) (hL : L ≤ 1048576) :
    Calls Try.prog 3 #[v, u, t] w (Keeps (.bool true) w) := by
  have H := Lib.hid h
  have H' := Lib.hid h'
  have H'' := Lib.hid h''
  clear h h' h''
  go_enter Try.func3, Try.ntmps3
  go_wp2_with fail
  refine (awake3_any _).mono ?_
  rintro e w1 ⟨rfl, hb1⟩
  go_wp2_with fail
  refine (mul_any ((H.out.below hb1).below ((Below.refl _ _).alloc (Nat.le_refl _) _)) ((H'.out.below hb1).below ((Below.refl _ _).alloc (Nat.le_refl _) _)) (by omega) (by omega)).mono ?_
  rintro e w2 ⟨A_ab, n_ab, c_ab, rfl, o_ab, hb2, l_ab⟩
  go_wp2_with fail
  refine (mul_any (((H'.out.below hb1).below ((Below.refl _ _).alloc (Nat.le_refl _) _)).below hb2) (((H.out.below hb1).below ((Below.refl _ _).alloc (Nat.le_refl _) _)).below hb2) (by omega) (by omega)).mono ?_
  rintro e w3 ⟨A_ba, n_ba, c_ba, rfl, o_ba, hb3, l_ba⟩
  go_wp2_with fail
  refine (same3_yes o_ba.rd (o_ab.rd.below hb3) (by rw [Nat.mul_comm]) (by omega)).mono ?_
  rintro e w4 ⟨rfl, hb4⟩
  go_wp2_with fail
  refine (mul_any (((((H'.out.below hb1).below ((Below.refl _ _).alloc (Nat.le_refl _) _)).below hb2).below hb3).below hb4) (((((H''.out.below hb1).below ((Below.refl _ _).alloc (Nat.le_refl _) _)).below hb2).below hb3).below hb4) (by omega) (by omega)).mono ?_
  rintro e w5 ⟨A_bc, n_bc, c_bc, rfl, o_bc, hb5, l_bc⟩
  go_wp2_with fail
  refine (mul_any ((((((H.out.below hb1).below ((Below.refl _ _).alloc (Nat.le_refl _) _)).below hb2).below hb3).below hb4).below hb5) (o_bc.num l_bc) (by omega) (by omega)).mono ?_
  rintro e w6 ⟨A_abc1, n_abc1, c_abc1, rfl, o_abc1, hb6, l_abc1⟩
  go_wp2_with fail
  refine (mul_any (((((o_ab.num l_ab).below hb3).below hb4).below hb5).below hb6) (((((((H''.out.below hb1).below ((Below.refl _ _).alloc (Nat.le_refl _) _)).below hb2).below hb3).below hb4).below hb5).below hb6) (by omega) (by omega)).mono ?_
  rintro e w7 ⟨A_abc2, n_abc2, c_abc2, rfl, o_abc2, hb7, l_abc2⟩
  go_wp2_with fail
  refine (same3_yes (o_abc1.rd.below hb7) o_abc2.rd (by rw [Nat.mul_assoc]) (by omega)).mono ?_
  rintro e w8 ⟨rfl, hb8⟩
  go_wp2_with fail
  refine (mul_any (((((((((H.out.below hb1).below ((Below.refl _ _).alloc (Nat.le_refl _) _)).below hb2).below hb3).below hb4).below hb5).below hb6).below hb7).below hb8) Num.nil (by omega) (by omega)).mono ?_
  rintro e w9 ⟨A_a0, n_a0, c_a0, rfl, o_a0, hb9, l_a0⟩
  have hz : n_a0 = 0 := by rw [← o_a0.len, Nat.mul_zero, dg_zero W_gt]; rfl
  subst hz
  go_wp2_with fail
  refine (mul_any ((((((((((H.out.below hb1).below ((Below.refl _ _).alloc (Nat.le_refl _) _)).below hb2).below hb3).below hb4).below hb5).below hb6).below hb7).below hb8).below hb9) (((((((((Num.lit (t := 25) _ [1] (by simp) (by simp [W_eq, All])).below hb2).below hb3).below hb4).below hb5).below hb6).below hb7).below hb8).below hb9) (by omega) (by simp)).mono ?_
  rintro e w10 ⟨A_a1, n_a1, c_a1, rfl, o_a1, hb10, l_a1⟩
  go_wp2_with fail
  refine (norm3_any (((((((((((H.out.below hb1).below ((Below.refl _ _).alloc (Nat.le_refl _) _)).below hb2).below hb3).below hb4).below hb5).below hb6).below hb7).below hb8).below hb9).below hb10) (by omega)).mono ?_
  rintro e w11 ⟨A_na, n_na, c_na, rfl, o_na, hb11, l_na⟩
  go_wp2_with fail
  refine (same3_yes (o_a1.rd.below hb11) o_na.rd (by simp [val]) (by simp at l_a1; omega)).mono ?_
  rintro e w12 ⟨rfl, hb12⟩
  go_wp2_with fail
  refine (square_any (((((((((((((H.out.below hb1).below ((Below.refl _ _).alloc (Nat.le_refl _) _)).below hb2).below hb3).below hb4).below hb5).below hb6).below hb7).below hb8).below hb9).below hb10).below hb11).below hb12) (by omega)).mono ?_
  rintro e w13 ⟨A_sq, n_sq, c_sq, rfl, o_sq, hb13, l_sq⟩
  go_wp2_with fail
  refine (mul_any ((((((((((((((H.out.below hb1).below ((Below.refl _ _).alloc (Nat.le_refl _) _)).below hb2).below hb3).below hb4).below hb5).below hb6).below hb7).below hb8).below hb9).below hb10).below hb11).below hb12).below hb13) ((((((((((((((H.out.below hb1).below ((Below.refl _ _).alloc (Nat.le_refl _) _)).below hb2).below hb3).below hb4).below hb5).below hb6).below hb7).below hb8).below hb9).below hb10).below hb11).below hb12).below hb13) (by omega) (by omega)).mono ?_
  rintro e w14 ⟨A_aa, n_aa, c_aa, rfl, o_aa, hb14, l_aa⟩
  go_wp2_with fail
  refine (same3_yes (o_sq.rd.below hb14) o_aa.rd rfl (by omega)).mono ?_
  rintro e w15 ⟨rfl, hb15⟩
  go_wp2_with fail
  refine (nadd_any ((((((((((((((((H'.out.below hb1).below ((Below.refl _ _).alloc (Nat.le_refl _) _)).below hb2).below hb3).below hb4).below hb5).below hb6).below hb7).below hb8).below hb9).below hb10).below hb11).below hb12).below hb13).below hb14).below hb15) ((((((((((((((((H''.out.below hb1).below ((Below.refl _ _).alloc (Nat.le_refl _) _)).below hb2).below hb3).below hb4).below hb5).below hb6).below hb7).below hb8).below hb9).below hb10).below hb11).below hb12).below hb13).below hb14).below hb15) (by omega) (by omega)).mono ?_
  rintro e w16 ⟨A_bpc, n_bpc, c_bpc, rfl, o_bpc, hb16, l_bpc⟩
  go_wp2_with fail
  refine (mul_any (((((((((((((((((H.out.below hb1).below ((Below.refl _ _).alloc (Nat.le_refl _) _)).below hb2).below hb3).below hb4).below hb5).below hb6).below hb7).below hb8).below hb9).below hb10).below hb11).below hb12).below hb13).below hb14).below hb15).below hb16) (o_bpc.num l_bpc) (by omega) (by omega)).mono ?_
  rintro e w17 ⟨A_d1, n_d1, c_d1, rfl, o_d1, hb17, l_d1⟩
  go_wp2_with fail
  refine (mul_any ((((((((((((((((((H.out.below hb1).below ((Below.refl _ _).alloc (Nat.le_refl _) _)).below hb2).below hb3).below hb4).below hb5).below hb6).below hb7).below hb8).below hb9).below hb10).below hb11).below hb12).below hb13).below hb14).below hb15).below hb16).below hb17) ((((((((((((((((((H''.out.below hb1).below ((Below.refl _ _).alloc (Nat.le_refl _) _)).below hb2).below hb3).below hb4).below hb5).below hb6).below hb7).below hb8).below hb9).below hb10).below hb11).below hb12).below hb13).below hb14).below hb15).below hb16).below hb17) (by omega) (by omega)).mono ?_
  rintro e w18 ⟨A_ac, n_ac, c_ac, rfl, o_ac, hb18, l_ac⟩
  go_wp2_with fail
  refine (nadd_any (((((((((((((((((o_ab.num l_ab).below hb3).below hb4).below hb5).below hb6).below hb7).below hb8).below hb9).below hb10).below hb11).below hb12).below hb13).below hb14).below hb15).below hb16).below hb17).below hb18) (o_ac.num l_ac) (by omega) (by omega)).mono ?_
  rintro e w19 ⟨A_d2, n_d2, c_d2, rfl, o_d2, hb19, l_d2⟩
  go_wp2_with fail
  refine (same3_yes ((o_d1.rd.below hb18).below hb19) o_d2.rd (by rw [Nat.mul_add]) (by omega)).mono ?_
  rintro e w20 ⟨rfl, hb20⟩
  go_wp2_with fail
  refine (mulAdd_any (((((((((((((((((((((H.out.below hb1).below ((Below.refl _ _).alloc (Nat.le_refl _) _)).below hb2).below hb3).below hb4).below hb5).below hb6).below hb7).below hb8).below hb9).below hb10).below hb11).below hb12).below hb13).below hb14).below hb15).below hb16).below hb17).below hb18).below hb19).below hb20) (((((((((((((((((((((H'.out.below hb1).below ((Below.refl _ _).alloc (Nat.le_refl _) _)).below hb2).below hb3).below hb4).below hb5).below hb6).below hb7).below hb8).below hb9).below hb10).below hb11).below hb12).below hb13).below hb14).below hb15).below hb16).below hb17).below hb18).below hb19).below hb20) (((((((((((((((((((((H''.out.below hb1).below ((Below.refl _ _).alloc (Nat.le_refl _) _)).below hb2).below hb3).below hb4).below hb5).below hb6).below hb7).below hb8).below hb9).below hb10).below hb11).below hb12).below hb13).below hb14).below hb15).below hb16).below hb17).below hb18).below hb19).below hb20) (by omega) (by omega) (by omega)).mono ?_
  rintro e w21 ⟨A_e1, n_e1, c_e1, rfl, o_e1, hb21, l_e1⟩
  go_wp2_with fail
  refine (nadd_any ((((((((((((((((((((o_ab.num l_ab).below hb3).below hb4).below hb5).below hb6).below hb7).below hb8).below hb9).below hb10).below hb11).below hb12).below hb13).below hb14).below hb15).below hb16).below hb17).below hb18).below hb19).below hb20).below hb21) ((((((((((((((((((((((H''.out.below hb1).below ((Below.refl _ _).alloc (Nat.le_refl _) _)).below hb2).below hb3).below hb4).below hb5).below hb6).below hb7).below hb8).below hb9).below hb10).below hb11).below hb12).below hb13).below hb14).below hb15).below hb16).below hb17).below hb18).below hb19).below hb20).below hb21) (by omega) (by omega)).mono ?_
  rintro e w22 ⟨A_e2, n_e2, c_e2, rfl, o_e2, hb22, l_e2⟩
  go_wp2_with fail
  refine (same3_yes (o_e1.rd.below hb22) o_e2.rd rfl (by omega)).mono ?_
  rintro e w23 ⟨rfl, hb23⟩
  go_wp2
  go_ret
  exact ⟨rfl, (bt (bt (bt (bt (bt (bt (bt (bt (bt (bt (bt (bt (bt (bt (bt (bt (bt (bt (bt (bt (bt (bt (bt hb1 ((Below.refl _ _).alloc (Nat.le_refl _) _)) hb2) hb3) hb4) hb5) hb6) hb7) hb8) hb9) hb10) hb11) hb12) hb13) hb14) hb15) hb16) hb17) hb18) hb19) hb20) hb21) hb22) hb23)⟩
end Go.Proofs.Ytgiecdokjmcogaa
