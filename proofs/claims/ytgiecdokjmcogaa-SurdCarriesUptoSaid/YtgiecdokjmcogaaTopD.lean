/-
  SurdCarries.
-/
import Derived.Test.YtgiecdokjmcogaaTopC
namespace Go.Proofs.Ytgiecdokjmcogaa
open Go.RowKit
set_option linter.unusedVariables false

theorem carries0 : dg W (val W [18446744073709551615, 18446744073709551615] + 1) = [0, 0, 1] := by
  have e : val W [18446744073709551615, 18446744073709551615] + 1 = val W [0, 0, 1] := by decide
  rw [e]
  exact (norm_dg W_gt (xs := [0, 0, 1]) (by simp [All, W_eq]) (by simp [Norm, strip])).symm

set_option maxHeartbeats 8000000 in
set_option maxRecDepth 100000 in
theorem carries_lt {A A2 : Option Addr} {n c m c2 x y : Nat} {z : Int} {w : World} (h : Num w (.slice A n c) x n) (h' : Num w (.slice A2 m c2) y m) (hn : n ≤ 1048576) (hm : m ≤ 1048576) (hrel : x < y) :
    Calls Try.prog 11 #[.slice A n c, .slice A2 m c2, .int .i64 z] w (Keeps (.bool true) w) := by
  obtain ⟨_, _, _, xs, e0, R1, A1, V1, _⟩ := id h
  cases e0
  obtain ⟨_, _, _, ys, e0, R2, A2', V2, _⟩ := id h'
  cases e0
  have RX := Lib.hid R1
  have RY := Lib.hid R2
  have AX := Lib.hid A1
  have AY := Lib.hid A2'
  have H := Lib.hid h
  have H' := Lib.hid h'
  have HQ := Lib.hid carries0
  have E1 : Hid (cmpN x y = (-1)) := by show _ = _; unfold cmpN; split <;> (try split) <;> omega
  have E2 : Hid (cmpN y x = 1) := by show _ = _; unfold cmpN; split <;> (try split) <;> omega
  have E3 : Hid (decide (x < y) = true) := by show _ = _; simp; omega
  have E4 : Hid ((if x < y then (2 : Int) else 0) = 2) := by show _ = _; split <;> omega
  have ED : Hid (x - y + (y - x) = 0 ↔ x = y) := by show _ ↔ _; omega
  have ES : Hid (x + (x - y + (y - x)) = y) := by show _ = _; omega
  have ESub : Hid (x + y - y = x) := by show _ = _; omega
  have HREL := Lib.hid hrel
  clear h h' R1 R2 A1 A2' V1 V2 hrel
  go_enter Try.func11, Try.ntmps11
  go_wp2_with fail
  refine (oneT_any).mono ?_
  rintro e w1 ⟨A_one, n_one, c_one, xs_one, rfl, o_one, a_one, v_one, hb1, l_one⟩
  have V_one := Lib.hid v_one
  clear v_one
  go_wp2_with fail
  refine (nadd_any ((Num.lit (t := 25) _ [18446744073709551615, 18446744073709551615] (by simp) (by simp [W_eq, All])).below hb1) (o_one.numv a_one V_one.out l_one) (by simp) (by omega)).mono ?_
  rintro e w2 ⟨A_s0, n_s0, c_s0, rfl, o_s0, hb2, l_s0⟩
  rw [HQ.out] at o_s0
  go_wp2_with fail
  refine (sameT_yes (o_s0.rd.alloc _) (Rd.litn (k := .u64) (t := 25) _ [0, 0, 1] rfl (by decide)) rfl (by simp at l_s0; omega)).mono ?_
  rintro e wz ⟨rfl, hbz⟩
  clear o_s0 o_one
  go_wp2_with fail
  refine (copyN_any (((((H.out.below ((Below.refl _ _).alloc (Nat.le_refl _) _)).below hb1).below hb2).below ((Below.refl _ _).alloc (Nat.le_refl _) _)).below hbz) (by omega)).mono ?_
  rintro e w3 ⟨A_ca, n_ca, c_ca, xs_ca, rfl, o_ca, a_ca, v_ca, hb3, l_ca⟩
  have V_ca := Lib.hid v_ca
  clear v_ca
  go_wp2_with fail
  refine (nnorm_any (o_ca.numv a_ca V_ca.out l_ca) (by omega)).mono ?_
  rintro e w4 ⟨A_x, n_x, c_x, rfl, o_x, hb4, l_x⟩
  go_wp2_with fail
  refine (copyN_any (((((((H'.out.below ((Below.refl _ _).alloc (Nat.le_refl _) _)).below hb1).below hb2).below ((Below.refl _ _).alloc (Nat.le_refl _) _)).below hbz).below hb3).below hb4) (by omega)).mono ?_
  rintro e w5 ⟨A_cb, n_cb, c_cb, xs_cb, rfl, o_cb, a_cb, v_cb, hb5, l_cb⟩
  have V_cb := Lib.hid v_cb
  clear v_cb
  go_wp2_with fail
  refine (nnorm_any (o_cb.numv a_cb V_cb.out l_cb) (by omega)).mono ?_
  rintro e w6 ⟨A_y, n_y, c_y, rfl, o_y, hb6, l_y⟩
  go_wp2_with fail
  refine (copyN_any (((((((((H.out.below ((Below.refl _ _).alloc (Nat.le_refl _) _)).below hb1).below hb2).below ((Below.refl _ _).alloc (Nat.le_refl _) _)).below hbz).below hb3).below hb4).below hb5).below hb6) (by omega)).mono ?_
  rintro e w7 ⟨A_ca1, n_ca1, c_ca1, xs_ca1, rfl, o_ca1, a_ca1, v_ca1, hb7, l_ca1⟩
  have V_ca1 := Lib.hid v_ca1
  clear v_ca1
  go_wp2_with fail
  refine (copyN_any ((((((((((H'.out.below ((Below.refl _ _).alloc (Nat.le_refl _) _)).below hb1).below hb2).below ((Below.refl _ _).alloc (Nat.le_refl _) _)).below hbz).below hb3).below hb4).below hb5).below hb6).below hb7) (by omega)).mono ?_
  rintro e w8 ⟨A_cb1, n_cb1, c_cb1, xs_cb1, rfl, o_cb1, a_cb1, v_cb1, hb8, l_cb1⟩
  have V_cb1 := Lib.hid v_cb1
  clear v_cb1
  go_wp2_with fail
  refine (nadd_any ((o_ca1.numv a_ca1 V_ca1.out l_ca1).below hb8) (o_cb1.numv a_cb1 V_cb1.out l_cb1) (by omega) (by omega)).mono ?_
  rintro e w9 ⟨A_s, n_s, c_s, rfl, o_s, hb9, l_s⟩
  go_wp2_with fail
  refine (copyN_any (o_s.num l_s) (by omega)).mono ?_
  rintro e w10 ⟨A_cs, n_cs, c_cs, xs_cs, rfl, o_cs, a_cs, v_cs, hb10, l_cs⟩
  have V_cs := Lib.hid v_cs
  clear v_cs
  go_wp2_with fail
  refine (copyN_any (((((((((((((H'.out.below ((Below.refl _ _).alloc (Nat.le_refl _) _)).below hb1).below hb2).below ((Below.refl _ _).alloc (Nat.le_refl _) _)).below hbz).below hb3).below hb4).below hb5).below hb6).below hb7).below hb8).below hb9).below hb10) (by omega)).mono ?_
  rintro e w11 ⟨A_cb2, n_cb2, c_cb2, xs_cb2, rfl, o_cb2, a_cb2, v_cb2, hb11, l_cb2⟩
  have V_cb2 := Lib.hid v_cb2
  clear v_cb2
  go_wp2_with fail
  refine (nsubE_any ((o_cs.numv a_cs V_cs.out l_cs).below hb11) (o_cb2.numv a_cb2 V_cb2.out l_cb2) (by omega) (by omega) (by omega)).mono ?_
  rintro e w12 ⟨A_d, n_d, c_d, rfl, o_d, hb12, l_d⟩
  rw [ESub.out] at o_d
  go_wp2_with fail
  refine (sameT_yes o_d.rd ((((((((o_x.rd.below hb5).below hb6).below hb7).below hb8).below hb9).below hb10).below hb11).below hb12) rfl (by omega)).mono ?_
  rintro e w13 ⟨rfl, hb13⟩
  go_wp2_with fail
  refine (nisnorm_any ((((o_s.rd.below hb10).below hb11).below hb12).below hb13) (by omega)).mono ?_
  rintro e w' ⟨rfl, rfl⟩
  go_wp2_with fail
  refine (copyN_any ((((((((((((((((H'.out.below ((Below.refl _ _).alloc (Nat.le_refl _) _)).below hb1).below hb2).below ((Below.refl _ _).alloc (Nat.le_refl _) _)).below hbz).below hb3).below hb4).below hb5).below hb6).below hb7).below hb8).below hb9).below hb10).below hb11).below hb12).below hb13) (by omega)).mono ?_
  rintro e w15 ⟨A_cb3, n_cb3, c_cb3, xs_cb3, rfl, o_cb3, a_cb3, v_cb3, hb15, l_cb3⟩
  have V_cb3 := Lib.hid v_cb3
  clear v_cb3
  go_wp2_with fail
  refine (copyN_any (((((((((((((((((H.out.below ((Below.refl _ _).alloc (Nat.le_refl _) _)).below hb1).below hb2).below ((Below.refl _ _).alloc (Nat.le_refl _) _)).below hbz).below hb3).below hb4).below hb5).below hb6).below hb7).below hb8).below hb9).below hb10).below hb11).below hb12).below hb13).below hb15) (by omega)).mono ?_
  rintro e w16 ⟨A_ca3, n_ca3, c_ca3, xs_ca3, rfl, o_ca3, a_ca3, v_ca3, hb16, l_ca3⟩
  have V_ca3 := Lib.hid v_ca3
  clear v_ca3
  go_wp2_with fail
  refine (nadd_any ((o_cb3.numv a_cb3 V_cb3.out l_cb3).below hb16) (o_ca3.numv a_ca3 V_ca3.out l_ca3) (by omega) (by omega)).mono ?_
  rintro e w17 ⟨A_s3, n_s3, c_s3, rfl, o_s3, hb17, l_s3⟩
  go_wp2_with fail
  refine (sameT_yes o_s3.rd (((((((o_s.rd.below hb10).below hb11).below hb12).below hb13).below hb15).below hb16).below hb17) (by rw [Nat.add_comm]) (by omega)).mono ?_
  rintro e w18 ⟨rfl, hb18⟩
  go_wp2_with fail
  refine (copyN_any ((((((((((((((((((((H.out.below ((Below.refl _ _).alloc (Nat.le_refl _) _)).below hb1).below hb2).below ((Below.refl _ _).alloc (Nat.le_refl _) _)).below hbz).below hb3).below hb4).below hb5).below hb6).below hb7).below hb8).below hb9).below hb10).below hb11).below hb12).below hb13).below hb15).below hb16).below hb17).below hb18) (by omega)).mono ?_
  rintro e w19 ⟨A_ca4, n_ca4, c_ca4, xs_ca4, rfl, o_ca4, a_ca4, v_ca4, hb19, l_ca4⟩
  have V_ca4 := Lib.hid v_ca4
  clear v_ca4
  go_wp2_with fail
  refine (copyN_any (((((((((((((((((((((H'.out.below ((Below.refl _ _).alloc (Nat.le_refl _) _)).below hb1).below hb2).below ((Below.refl _ _).alloc (Nat.le_refl _) _)).below hbz).below hb3).below hb4).below hb5).below hb6).below hb7).below hb8).below hb9).below hb10).below hb11).below hb12).below hb13).below hb15).below hb16).below hb17).below hb18).below hb19) (by omega)).mono ?_
  rintro e w20 ⟨A_cb4, n_cb4, c_cb4, xs_cb4, rfl, o_cb4, a_cb4, v_cb4, hb20, l_cb4⟩
  have V_cb4 := Lib.hid v_cb4
  clear v_cb4
  go_wp2_with fail
  have CD := Lib.hid (ndiff_any (w := w20) ((o_ca4.numv a_ca4 V_ca4.out l_ca4).below hb20) (o_cb4.numv a_cb4 V_cb4.out l_cb4) (by omega) (by omega))
  rw [E3.out] at CD
  go_wp2_with fail
  refine (CD.out).mono ?_
  rintro e w21 ⟨A_df, n_df, c_df, rfl, o_df, hb21, l_df⟩
  go_wp2_with fail
  refine (copyN_any (((((((((((((((((((((((H.out.below ((Below.refl _ _).alloc (Nat.le_refl _) _)).below hb1).below hb2).below ((Below.refl _ _).alloc (Nat.le_refl _) _)).below hbz).below hb3).below hb4).below hb5).below hb6).below hb7).below hb8).below hb9).below hb10).below hb11).below hb12).below hb13).below hb15).below hb16).below hb17).below hb18).below hb19).below hb20).below hb21) (by omega)).mono ?_
  rintro e w22 ⟨A_ca5, n_ca5, c_ca5, xs_ca5, rfl, o_ca5, a_ca5, v_ca5, hb22, l_ca5⟩
  have V_ca5 := Lib.hid v_ca5
  clear v_ca5
  go_wp2_with fail
  refine (copyN_any ((((((((((((((((((((((((H'.out.below ((Below.refl _ _).alloc (Nat.le_refl _) _)).below hb1).below hb2).below ((Below.refl _ _).alloc (Nat.le_refl _) _)).below hbz).below hb3).below hb4).below hb5).below hb6).below hb7).below hb8).below hb9).below hb10).below hb11).below hb12).below hb13).below hb15).below hb16).below hb17).below hb18).below hb19).below hb20).below hb21).below hb22) (by omega)).mono ?_
  rintro e w23 ⟨A_cb5, n_cb5, c_cb5, xs_cb5, rfl, o_cb5, a_cb5, v_cb5, hb23, l_cb5⟩
  have V_cb5 := Lib.hid v_cb5
  clear v_cb5
  go_wp2_with fail
  have CC := Lib.hid (ncmp_any (w := w23) ((o_ca5.numv a_ca5 V_ca5.out l_ca5).below hb23) (o_cb5.numv a_cb5 V_cb5.out l_cb5) (by omega) (by omega))
  rw [E1.out] at CC
  go_wp2_with fail
  refine (CC.out).mono ?_
  rintro e w' ⟨rfl, rfl⟩
  go_wp2_with fail
  refine (copyN_any (((((((((((((((((((((((((H.out.below ((Below.refl _ _).alloc (Nat.le_refl _) _)).below hb1).below hb2).below ((Below.refl _ _).alloc (Nat.le_refl _) _)).below hbz).below hb3).below hb4).below hb5).below hb6).below hb7).below hb8).below hb9).below hb10).below hb11).below hb12).below hb13).below hb15).below hb16).below hb17).below hb18).below hb19).below hb20).below hb21).below hb22).below hb23) (by omega)).mono ?_
  rintro e w25 ⟨A_ca6, n_ca6, c_ca6, xs_ca6, rfl, o_ca6, a_ca6, v_ca6, hb25, l_ca6⟩
  have V_ca6 := Lib.hid v_ca6
  clear v_ca6
  go_wp2_with fail
  refine (copyN_any ((((((((((((((((((((((((((H'.out.below ((Below.refl _ _).alloc (Nat.le_refl _) _)).below hb1).below hb2).below ((Below.refl _ _).alloc (Nat.le_refl _) _)).below hbz).below hb3).below hb4).below hb5).below hb6).below hb7).below hb8).below hb9).below hb10).below hb11).below hb12).below hb13).below hb15).below hb16).below hb17).below hb18).below hb19).below hb20).below hb21).below hb22).below hb23).below hb25) (by omega)).mono ?_
  rintro e w26 ⟨A_cb6, n_cb6, c_cb6, xs_cb6, rfl, o_cb6, a_cb6, v_cb6, hb26, l_cb6⟩
  have V_cb6 := Lib.hid v_cb6
  clear v_cb6
  go_wp2_with fail
  have CE := Lib.hid (nsub_all (w := w26) ((o_ca6.numv a_ca6 V_ca6.out l_ca6).below hb26) (o_cb6.numv a_cb6 V_cb6.out l_cb6) (by omega) (by omega))
  rw [E4.out] at CE
  have hdz := own_zero o_df
  have dlen : ((n_df : Int) == 0) = false := by rw [beq_eq_false_iff_ne]; have := HREL.out; have := ED.out; omega
  go_wp2_with fail
  refine (CE.out).mono ?_
  rintro e w27 ⟨A_e, n_e, c_e, rfl, o_e, hb27, l_e⟩
  go_wp2_with fail
  refine (copyN_any ((((((((((((((((((((((((((((H'.out.below ((Below.refl _ _).alloc (Nat.le_refl _) _)).below hb1).below hb2).below ((Below.refl _ _).alloc (Nat.le_refl _) _)).below hbz).below hb3).below hb4).below hb5).below hb6).below hb7).below hb8).below hb9).below hb10).below hb11).below hb12).below hb13).below hb15).below hb16).below hb17).below hb18).below hb19).below hb20).below hb21).below hb22).below hb23).below hb25).below hb26).below hb27) (by omega)).mono ?_
  rintro e w28 ⟨A_cb7, n_cb7, c_cb7, xs_cb7, rfl, o_cb7, a_cb7, v_cb7, hb28, l_cb7⟩
  have V_cb7 := Lib.hid v_cb7
  clear v_cb7
  go_wp2_with fail
  refine (copyN_any (((((((((((((((((((((((((((((H.out.below ((Below.refl _ _).alloc (Nat.le_refl _) _)).below hb1).below hb2).below ((Below.refl _ _).alloc (Nat.le_refl _) _)).below hbz).below hb3).below hb4).below hb5).below hb6).below hb7).below hb8).below hb9).below hb10).below hb11).below hb12).below hb13).below hb15).below hb16).below hb17).below hb18).below hb19).below hb20).below hb21).below hb22).below hb23).below hb25).below hb26).below hb27).below hb28) (by omega)).mono ?_
  rintro e w29 ⟨A_ca7, n_ca7, c_ca7, xs_ca7, rfl, o_ca7, a_ca7, v_ca7, hb29, l_ca7⟩
  have V_ca7 := Lib.hid v_ca7
  clear v_ca7
  go_wp2_with fail
  have CF := Lib.hid (ncmp_any (w := w29) ((o_cb7.numv a_cb7 V_cb7.out l_cb7).below hb29) (o_ca7.numv a_ca7 V_ca7.out l_ca7) (by omega) (by omega))
  rw [E2.out] at CF
  clear dlen
  go_wp2_with fail
  refine (CF.out).mono ?_
  rintro e w' ⟨rfl, rfl⟩
  go_wp2_with fail
  refine (nadd_any ((((((((((((((((((((((((o_x.num l_x).below hb5).below hb6).below hb7).below hb8).below hb9).below hb10).below hb11).below hb12).below hb13).below hb15).below hb16).below hb17).below hb18).below hb19).below hb20).below hb21).below hb22).below hb23).below hb25).below hb26).below hb27).below hb28).below hb29) ((((((((o_df.num l_df).below hb22).below hb23).below hb25).below hb26).below hb27).below hb28).below hb29) (by omega) (by omega)).mono ?_
  rintro e w31 ⟨A_sm, n_sm, c_sm, rfl, o_sm, hb31, l_sm⟩
  rw [ES.out] at o_sm
  go_wp2_with fail
  refine (sameT_yes o_sm.rd ((((((((((((((((((((((o_y.rd.below hb7).below hb8).below hb9).below hb10).below hb11).below hb12).below hb13).below hb15).below hb16).below hb17).below hb18).below hb19).below hb20).below hb21).below hb22).below hb23).below hb25).below hb26).below hb27).below hb28).below hb29).below hb31) rfl (by omega)).mono ?_
  rintro e w32 ⟨rfl, hb32⟩
  go_wp2_with fail
  refine (shiftsBack_any ((((((((((((((((((((((((((((((((H.out.below ((Below.refl _ _).alloc (Nat.le_refl _) _)).below hb1).below hb2).below ((Below.refl _ _).alloc (Nat.le_refl _) _)).below hbz).below hb3).below hb4).below hb5).below hb6).below hb7).below hb8).below hb9).below hb10).below hb11).below hb12).below hb13).below hb15).below hb16).below hb17).below hb18).below hb19).below hb20).below hb21).below hb22).below hb23).below hb25).below hb26).below hb27).below hb28).below hb29).below hb31).below hb32) (by omega)).mono ?_
  rintro e w33 ⟨rfl, hb33⟩
  go_wp2_with fail
  refine (wordsAlike_any (((((((((((((((((((((((((((((((((RX.out.below ((Below.refl _ _).alloc (Nat.le_refl _) _)).below hb1).below hb2).below ((Below.refl _ _).alloc (Nat.le_refl _) _)).below hbz).below hb3).below hb4).below hb5).below hb6).below hb7).below hb8).below hb9).below hb10).below hb11).below hb12).below hb13).below hb15).below hb16).below hb17).below hb18).below hb19).below hb20).below hb21).below hb22).below hb23).below hb25).below hb26).below hb27).below hb28).below hb29).below hb31).below hb32).below hb33) (((((((((((((((((((((((((((((((((RY.out.below ((Below.refl _ _).alloc (Nat.le_refl _) _)).below hb1).below hb2).below ((Below.refl _ _).alloc (Nat.le_refl _) _)).below hbz).below hb3).below hb4).below hb5).below hb6).below hb7).below hb8).below hb9).below hb10).below hb11).below hb12).below hb13).below hb15).below hb16).below hb17).below hb18).below hb19).below hb20).below hb21).below hb22).below hb23).below hb25).below hb26).below hb27).below hb28).below hb29).below hb31).below hb32).below hb33) AX.out AY.out (by omega) (by omega)).mono ?_
  rintro e w34 ⟨rfl, hb34⟩
  go_wp2
  go_ret
  exact ⟨rfl, (bt (bt (bt (bt (bt (bt (bt (bt (bt (bt (bt (bt (bt (bt (bt (bt (bt (bt (bt (bt (bt (bt (bt (bt (bt (bt (bt (bt (bt (bt (bt (bt (bt ((Below.refl _ _).alloc (Nat.le_refl _) _) hb1) hb2) ((Below.refl _ _).alloc (Nat.le_refl _) _)) hbz) hb3) hb4) hb5) hb6) hb7) hb8) hb9) hb10) hb11) hb12) hb13) hb15) hb16) hb17) hb18) hb19) hb20) hb21) hb22) hb23) hb25) hb26) hb27) hb28) hb29) hb31) hb32) hb33) hb34)⟩
set_option maxHeartbeats 8000000 in
set_option maxRecDepth 100000 in
theorem carries_eq {A A2 : Option Addr} {n c m c2 x y : Nat} {z : Int} {w : World} (h : Num w (.slice A n c) x n) (h' : Num w (.slice A2 m c2) y m) (hn : n ≤ 1048576) (hm : m ≤ 1048576) (hrel : x = y) :
    Calls Try.prog 11 #[.slice A n c, .slice A2 m c2, .int .i64 z] w (Keeps (.bool true) w) := by
  obtain ⟨_, _, _, xs, e0, R1, A1, V1, _⟩ := id h
  cases e0
  obtain ⟨_, _, _, ys, e0, R2, A2', V2, _⟩ := id h'
  cases e0
  have RX := Lib.hid R1
  have RY := Lib.hid R2
  have AX := Lib.hid A1
  have AY := Lib.hid A2'
  have H := Lib.hid h
  have H' := Lib.hid h'
  have HQ := Lib.hid carries0
  have E1 : Hid (cmpN x y = 0) := by show _ = _; unfold cmpN; split <;> (try split) <;> omega
  have E2 : Hid (cmpN y x = 0) := by show _ = _; unfold cmpN; split <;> (try split) <;> omega
  have E3 : Hid (decide (x < y) = false) := by show _ = _; simp; omega
  have E4 : Hid ((if x < y then (2 : Int) else 0) = 0) := by show _ = _; split <;> omega
  have ED : Hid (x - y + (y - x) = 0 ↔ x = y) := by show _ ↔ _; omega
  have ES : Hid (y + (x - y + (y - x)) = x) := by show _ = _; omega
  have ESub : Hid (x + y - y = x) := by show _ = _; omega
  have HREL := Lib.hid hrel
  clear h h' R1 R2 A1 A2' V1 V2 hrel
  go_enter Try.func11, Try.ntmps11
  go_wp2_with fail
  refine (oneT_any).mono ?_
  rintro e w1 ⟨A_one, n_one, c_one, xs_one, rfl, o_one, a_one, v_one, hb1, l_one⟩
  have V_one := Lib.hid v_one
  clear v_one
  go_wp2_with fail
  refine (nadd_any ((Num.lit (t := 25) _ [18446744073709551615, 18446744073709551615] (by simp) (by simp [W_eq, All])).below hb1) (o_one.numv a_one V_one.out l_one) (by simp) (by omega)).mono ?_
  rintro e w2 ⟨A_s0, n_s0, c_s0, rfl, o_s0, hb2, l_s0⟩
  rw [HQ.out] at o_s0
  go_wp2_with fail
  refine (sameT_yes (o_s0.rd.alloc _) (Rd.litn (k := .u64) (t := 25) _ [0, 0, 1] rfl (by decide)) rfl (by simp at l_s0; omega)).mono ?_
  rintro e wz ⟨rfl, hbz⟩
  clear o_s0 o_one
  go_wp2_with fail
  refine (copyN_any (((((H.out.below ((Below.refl _ _).alloc (Nat.le_refl _) _)).below hb1).below hb2).below ((Below.refl _ _).alloc (Nat.le_refl _) _)).below hbz) (by omega)).mono ?_
  rintro e w3 ⟨A_ca, n_ca, c_ca, xs_ca, rfl, o_ca, a_ca, v_ca, hb3, l_ca⟩
  have V_ca := Lib.hid v_ca
  clear v_ca
  go_wp2_with fail
  refine (nnorm_any (o_ca.numv a_ca V_ca.out l_ca) (by omega)).mono ?_
  rintro e w4 ⟨A_x, n_x, c_x, rfl, o_x, hb4, l_x⟩
  go_wp2_with fail
  refine (copyN_any (((((((H'.out.below ((Below.refl _ _).alloc (Nat.le_refl _) _)).below hb1).below hb2).below ((Below.refl _ _).alloc (Nat.le_refl _) _)).below hbz).below hb3).below hb4) (by omega)).mono ?_
  rintro e w5 ⟨A_cb, n_cb, c_cb, xs_cb, rfl, o_cb, a_cb, v_cb, hb5, l_cb⟩
  have V_cb := Lib.hid v_cb
  clear v_cb
  go_wp2_with fail
  refine (nnorm_any (o_cb.numv a_cb V_cb.out l_cb) (by omega)).mono ?_
  rintro e w6 ⟨A_y, n_y, c_y, rfl, o_y, hb6, l_y⟩
  go_wp2_with fail
  refine (copyN_any (((((((((H.out.below ((Below.refl _ _).alloc (Nat.le_refl _) _)).below hb1).below hb2).below ((Below.refl _ _).alloc (Nat.le_refl _) _)).below hbz).below hb3).below hb4).below hb5).below hb6) (by omega)).mono ?_
  rintro e w7 ⟨A_ca1, n_ca1, c_ca1, xs_ca1, rfl, o_ca1, a_ca1, v_ca1, hb7, l_ca1⟩
  have V_ca1 := Lib.hid v_ca1
  clear v_ca1
  go_wp2_with fail
  refine (copyN_any ((((((((((H'.out.below ((Below.refl _ _).alloc (Nat.le_refl _) _)).below hb1).below hb2).below ((Below.refl _ _).alloc (Nat.le_refl _) _)).below hbz).below hb3).below hb4).below hb5).below hb6).below hb7) (by omega)).mono ?_
  rintro e w8 ⟨A_cb1, n_cb1, c_cb1, xs_cb1, rfl, o_cb1, a_cb1, v_cb1, hb8, l_cb1⟩
  have V_cb1 := Lib.hid v_cb1
  clear v_cb1
  go_wp2_with fail
  refine (nadd_any ((o_ca1.numv a_ca1 V_ca1.out l_ca1).below hb8) (o_cb1.numv a_cb1 V_cb1.out l_cb1) (by omega) (by omega)).mono ?_
  rintro e w9 ⟨A_s, n_s, c_s, rfl, o_s, hb9, l_s⟩
  go_wp2_with fail
  refine (copyN_any (o_s.num l_s) (by omega)).mono ?_
  rintro e w10 ⟨A_cs, n_cs, c_cs, xs_cs, rfl, o_cs, a_cs, v_cs, hb10, l_cs⟩
  have V_cs := Lib.hid v_cs
  clear v_cs
  go_wp2_with fail
  refine (copyN_any (((((((((((((H'.out.below ((Below.refl _ _).alloc (Nat.le_refl _) _)).below hb1).below hb2).below ((Below.refl _ _).alloc (Nat.le_refl _) _)).below hbz).below hb3).below hb4).below hb5).below hb6).below hb7).below hb8).below hb9).below hb10) (by omega)).mono ?_
  rintro e w11 ⟨A_cb2, n_cb2, c_cb2, xs_cb2, rfl, o_cb2, a_cb2, v_cb2, hb11, l_cb2⟩
  have V_cb2 := Lib.hid v_cb2
  clear v_cb2
  go_wp2_with fail
  refine (nsubE_any ((o_cs.numv a_cs V_cs.out l_cs).below hb11) (o_cb2.numv a_cb2 V_cb2.out l_cb2) (by omega) (by omega) (by omega)).mono ?_
  rintro e w12 ⟨A_d, n_d, c_d, rfl, o_d, hb12, l_d⟩
  rw [ESub.out] at o_d
  go_wp2_with fail
  refine (sameT_yes o_d.rd ((((((((o_x.rd.below hb5).below hb6).below hb7).below hb8).below hb9).below hb10).below hb11).below hb12) rfl (by omega)).mono ?_
  rintro e w13 ⟨rfl, hb13⟩
  go_wp2_with fail
  refine (nisnorm_any ((((o_s.rd.below hb10).below hb11).below hb12).below hb13) (by omega)).mono ?_
  rintro e w' ⟨rfl, rfl⟩
  go_wp2_with fail
  refine (copyN_any ((((((((((((((((H'.out.below ((Below.refl _ _).alloc (Nat.le_refl _) _)).below hb1).below hb2).below ((Below.refl _ _).alloc (Nat.le_refl _) _)).below hbz).below hb3).below hb4).below hb5).below hb6).below hb7).below hb8).below hb9).below hb10).below hb11).below hb12).below hb13) (by omega)).mono ?_
  rintro e w15 ⟨A_cb3, n_cb3, c_cb3, xs_cb3, rfl, o_cb3, a_cb3, v_cb3, hb15, l_cb3⟩
  have V_cb3 := Lib.hid v_cb3
  clear v_cb3
  go_wp2_with fail
  refine (copyN_any (((((((((((((((((H.out.below ((Below.refl _ _).alloc (Nat.le_refl _) _)).below hb1).below hb2).below ((Below.refl _ _).alloc (Nat.le_refl _) _)).below hbz).below hb3).below hb4).below hb5).below hb6).below hb7).below hb8).below hb9).below hb10).below hb11).below hb12).below hb13).below hb15) (by omega)).mono ?_
  rintro e w16 ⟨A_ca3, n_ca3, c_ca3, xs_ca3, rfl, o_ca3, a_ca3, v_ca3, hb16, l_ca3⟩
  have V_ca3 := Lib.hid v_ca3
  clear v_ca3
  go_wp2_with fail
  refine (nadd_any ((o_cb3.numv a_cb3 V_cb3.out l_cb3).below hb16) (o_ca3.numv a_ca3 V_ca3.out l_ca3) (by omega) (by omega)).mono ?_
  rintro e w17 ⟨A_s3, n_s3, c_s3, rfl, o_s3, hb17, l_s3⟩
  go_wp2_with fail
  refine (sameT_yes o_s3.rd (((((((o_s.rd.below hb10).below hb11).below hb12).below hb13).below hb15).below hb16).below hb17) (by rw [Nat.add_comm]) (by omega)).mono ?_
  rintro e w18 ⟨rfl, hb18⟩
  go_wp2_with fail
  refine (copyN_any ((((((((((((((((((((H.out.below ((Below.refl _ _).alloc (Nat.le_refl _) _)).below hb1).below hb2).below ((Below.refl _ _).alloc (Nat.le_refl _) _)).below hbz).below hb3).below hb4).below hb5).below hb6).below hb7).below hb8).below hb9).below hb10).below hb11).below hb12).below hb13).below hb15).below hb16).below hb17).below hb18) (by omega)).mono ?_
  rintro e w19 ⟨A_ca4, n_ca4, c_ca4, xs_ca4, rfl, o_ca4, a_ca4, v_ca4, hb19, l_ca4⟩
  have V_ca4 := Lib.hid v_ca4
  clear v_ca4
  go_wp2_with fail
  refine (copyN_any (((((((((((((((((((((H'.out.below ((Below.refl _ _).alloc (Nat.le_refl _) _)).below hb1).below hb2).below ((Below.refl _ _).alloc (Nat.le_refl _) _)).below hbz).below hb3).below hb4).below hb5).below hb6).below hb7).below hb8).below hb9).below hb10).below hb11).below hb12).below hb13).below hb15).below hb16).below hb17).below hb18).below hb19) (by omega)).mono ?_
  rintro e w20 ⟨A_cb4, n_cb4, c_cb4, xs_cb4, rfl, o_cb4, a_cb4, v_cb4, hb20, l_cb4⟩
  have V_cb4 := Lib.hid v_cb4
  clear v_cb4
  go_wp2_with fail
  have CD := Lib.hid (ndiff_any (w := w20) ((o_ca4.numv a_ca4 V_ca4.out l_ca4).below hb20) (o_cb4.numv a_cb4 V_cb4.out l_cb4) (by omega) (by omega))
  rw [E3.out] at CD
  go_wp2_with fail
  refine (CD.out).mono ?_
  rintro e w21 ⟨A_df, n_df, c_df, rfl, o_df, hb21, l_df⟩
  go_wp2_with fail
  refine (copyN_any (((((((((((((((((((((((H.out.below ((Below.refl _ _).alloc (Nat.le_refl _) _)).below hb1).below hb2).below ((Below.refl _ _).alloc (Nat.le_refl _) _)).below hbz).below hb3).below hb4).below hb5).below hb6).below hb7).below hb8).below hb9).below hb10).below hb11).below hb12).below hb13).below hb15).below hb16).below hb17).below hb18).below hb19).below hb20).below hb21) (by omega)).mono ?_
  rintro e w22 ⟨A_ca5, n_ca5, c_ca5, xs_ca5, rfl, o_ca5, a_ca5, v_ca5, hb22, l_ca5⟩
  have V_ca5 := Lib.hid v_ca5
  clear v_ca5
  go_wp2_with fail
  refine (copyN_any ((((((((((((((((((((((((H'.out.below ((Below.refl _ _).alloc (Nat.le_refl _) _)).below hb1).below hb2).below ((Below.refl _ _).alloc (Nat.le_refl _) _)).below hbz).below hb3).below hb4).below hb5).below hb6).below hb7).below hb8).below hb9).below hb10).below hb11).below hb12).below hb13).below hb15).below hb16).below hb17).below hb18).below hb19).below hb20).below hb21).below hb22) (by omega)).mono ?_
  rintro e w23 ⟨A_cb5, n_cb5, c_cb5, xs_cb5, rfl, o_cb5, a_cb5, v_cb5, hb23, l_cb5⟩
  have V_cb5 := Lib.hid v_cb5
  clear v_cb5
  go_wp2_with fail
  have CC := Lib.hid (ncmp_any (w := w23) ((o_ca5.numv a_ca5 V_ca5.out l_ca5).below hb23) (o_cb5.numv a_cb5 V_cb5.out l_cb5) (by omega) (by omega))
  rw [E1.out] at CC
  go_wp2_with fail
  refine (CC.out).mono ?_
  rintro e w' ⟨rfl, rfl⟩
  go_wp2_with fail
  refine (copyN_any (((((((((((((((((((((((((H.out.below ((Below.refl _ _).alloc (Nat.le_refl _) _)).below hb1).below hb2).below ((Below.refl _ _).alloc (Nat.le_refl _) _)).below hbz).below hb3).below hb4).below hb5).below hb6).below hb7).below hb8).below hb9).below hb10).below hb11).below hb12).below hb13).below hb15).below hb16).below hb17).below hb18).below hb19).below hb20).below hb21).below hb22).below hb23) (by omega)).mono ?_
  rintro e w25 ⟨A_ca6, n_ca6, c_ca6, xs_ca6, rfl, o_ca6, a_ca6, v_ca6, hb25, l_ca6⟩
  have V_ca6 := Lib.hid v_ca6
  clear v_ca6
  go_wp2_with fail
  refine (copyN_any ((((((((((((((((((((((((((H'.out.below ((Below.refl _ _).alloc (Nat.le_refl _) _)).below hb1).below hb2).below ((Below.refl _ _).alloc (Nat.le_refl _) _)).below hbz).below hb3).below hb4).below hb5).below hb6).below hb7).below hb8).below hb9).below hb10).below hb11).below hb12).below hb13).below hb15).below hb16).below hb17).below hb18).below hb19).below hb20).below hb21).below hb22).below hb23).below hb25) (by omega)).mono ?_
  rintro e w26 ⟨A_cb6, n_cb6, c_cb6, xs_cb6, rfl, o_cb6, a_cb6, v_cb6, hb26, l_cb6⟩
  have V_cb6 := Lib.hid v_cb6
  clear v_cb6
  go_wp2_with fail
  have CE := Lib.hid (nsub_all (w := w26) ((o_ca6.numv a_ca6 V_ca6.out l_ca6).below hb26) (o_cb6.numv a_cb6 V_cb6.out l_cb6) (by omega) (by omega))
  rw [E4.out] at CE
  have hdz := own_zero o_df
  have dlen : ((n_df : Int) == 0) = true := by rw [beq_iff_eq]; have := HREL.out; have := ED.out; omega
  go_wp2_with fail
  refine (CE.out).mono ?_
  rintro e w27 ⟨A_e, n_e, c_e, rfl, o_e, hb27, l_e⟩
  go_wp2_with fail
  refine (copyN_any ((((((((((((((((((((((((((((H'.out.below ((Below.refl _ _).alloc (Nat.le_refl _) _)).below hb1).below hb2).below ((Below.refl _ _).alloc (Nat.le_refl _) _)).below hbz).below hb3).below hb4).below hb5).below hb6).below hb7).below hb8).below hb9).below hb10).below hb11).below hb12).below hb13).below hb15).below hb16).below hb17).below hb18).below hb19).below hb20).below hb21).below hb22).below hb23).below hb25).below hb26).below hb27) (by omega)).mono ?_
  rintro e w28 ⟨A_cb7, n_cb7, c_cb7, xs_cb7, rfl, o_cb7, a_cb7, v_cb7, hb28, l_cb7⟩
  have V_cb7 := Lib.hid v_cb7
  clear v_cb7
  go_wp2_with fail
  refine (copyN_any (((((((((((((((((((((((((((((H.out.below ((Below.refl _ _).alloc (Nat.le_refl _) _)).below hb1).below hb2).below ((Below.refl _ _).alloc (Nat.le_refl _) _)).below hbz).below hb3).below hb4).below hb5).below hb6).below hb7).below hb8).below hb9).below hb10).below hb11).below hb12).below hb13).below hb15).below hb16).below hb17).below hb18).below hb19).below hb20).below hb21).below hb22).below hb23).below hb25).below hb26).below hb27).below hb28) (by omega)).mono ?_
  rintro e w29 ⟨A_ca7, n_ca7, c_ca7, xs_ca7, rfl, o_ca7, a_ca7, v_ca7, hb29, l_ca7⟩
  have V_ca7 := Lib.hid v_ca7
  clear v_ca7
  go_wp2_with fail
  have CF := Lib.hid (ncmp_any (w := w29) ((o_cb7.numv a_cb7 V_cb7.out l_cb7).below hb29) (o_ca7.numv a_ca7 V_ca7.out l_ca7) (by omega) (by omega))
  rw [E2.out] at CF
  clear dlen
  go_wp2_with fail
  refine (CF.out).mono ?_
  rintro e w' ⟨rfl, rfl⟩
  go_wp2_with fail
  refine (nadd_any ((((((((((((((((((((((o_y.num l_y).below hb7).below hb8).below hb9).below hb10).below hb11).below hb12).below hb13).below hb15).below hb16).below hb17).below hb18).below hb19).below hb20).below hb21).below hb22).below hb23).below hb25).below hb26).below hb27).below hb28).below hb29) ((((((((o_df.num l_df).below hb22).below hb23).below hb25).below hb26).below hb27).below hb28).below hb29) (by omega) (by omega)).mono ?_
  rintro e w31 ⟨A_sm, n_sm, c_sm, rfl, o_sm, hb31, l_sm⟩
  rw [ES.out] at o_sm
  go_wp2_with fail
  refine (sameT_yes o_sm.rd ((((((((((((((((((((((((o_x.rd.below hb5).below hb6).below hb7).below hb8).below hb9).below hb10).below hb11).below hb12).below hb13).below hb15).below hb16).below hb17).below hb18).below hb19).below hb20).below hb21).below hb22).below hb23).below hb25).below hb26).below hb27).below hb28).below hb29).below hb31) rfl (by omega)).mono ?_
  rintro e w32 ⟨rfl, hb32⟩
  go_wp2_with fail
  refine (shiftsBack_any ((((((((((((((((((((((((((((((((H.out.below ((Below.refl _ _).alloc (Nat.le_refl _) _)).below hb1).below hb2).below ((Below.refl _ _).alloc (Nat.le_refl _) _)).below hbz).below hb3).below hb4).below hb5).below hb6).below hb7).below hb8).below hb9).below hb10).below hb11).below hb12).below hb13).below hb15).below hb16).below hb17).below hb18).below hb19).below hb20).below hb21).below hb22).below hb23).below hb25).below hb26).below hb27).below hb28).below hb29).below hb31).below hb32) (by omega)).mono ?_
  rintro e w33 ⟨rfl, hb33⟩
  go_wp2_with fail
  refine (wordsAlike_any (((((((((((((((((((((((((((((((((RX.out.below ((Below.refl _ _).alloc (Nat.le_refl _) _)).below hb1).below hb2).below ((Below.refl _ _).alloc (Nat.le_refl _) _)).below hbz).below hb3).below hb4).below hb5).below hb6).below hb7).below hb8).below hb9).below hb10).below hb11).below hb12).below hb13).below hb15).below hb16).below hb17).below hb18).below hb19).below hb20).below hb21).below hb22).below hb23).below hb25).below hb26).below hb27).below hb28).below hb29).below hb31).below hb32).below hb33) (((((((((((((((((((((((((((((((((RY.out.below ((Below.refl _ _).alloc (Nat.le_refl _) _)).below hb1).below hb2).below ((Below.refl _ _).alloc (Nat.le_refl _) _)).below hbz).below hb3).below hb4).below hb5).below hb6).below hb7).below hb8).below hb9).below hb10).below hb11).below hb12).below hb13).below hb15).below hb16).below hb17).below hb18).below hb19).below hb20).below hb21).below hb22).below hb23).below hb25).below hb26).below hb27).below hb28).below hb29).below hb31).below hb32).below hb33) AX.out AY.out (by omega) (by omega)).mono ?_
  rintro e w34 ⟨rfl, hb34⟩
  go_wp2
  go_ret
  exact ⟨rfl, (bt (bt (bt (bt (bt (bt (bt (bt (bt (bt (bt (bt (bt (bt (bt (bt (bt (bt (bt (bt (bt (bt (bt (bt (bt (bt (bt (bt (bt (bt (bt (bt (bt ((Below.refl _ _).alloc (Nat.le_refl _) _) hb1) hb2) ((Below.refl _ _).alloc (Nat.le_refl _) _)) hbz) hb3) hb4) hb5) hb6) hb7) hb8) hb9) hb10) hb11) hb12) hb13) hb15) hb16) hb17) hb18) hb19) hb20) hb21) hb22) hb23) hb25) hb26) hb27) hb28) hb29) hb31) hb32) hb33) hb34)⟩
set_option maxHeartbeats 8000000 in
set_option maxRecDepth 100000 in
theorem carries_gt {A A2 : Option Addr} {n c m c2 x y : Nat} {z : Int} {w : World} (h : Num w (.slice A n c) x n) (h' : Num w (.slice A2 m c2) y m) (hn : n ≤ 1048576) (hm : m ≤ 1048576) (hrel : y < x) :
    Calls Try.prog 11 #[.slice A n c, .slice A2 m c2, .int .i64 z] w (Keeps (.bool true) w) := by
  obtain ⟨_, _, _, xs, e0, R1, A1, V1, _⟩ := id h
  cases e0
  obtain ⟨_, _, _, ys, e0, R2, A2', V2, _⟩ := id h'
  cases e0
  have RX := Lib.hid R1
  have RY := Lib.hid R2
  have AX := Lib.hid A1
  have AY := Lib.hid A2'
  have H := Lib.hid h
  have H' := Lib.hid h'
  have HQ := Lib.hid carries0
  have E1 : Hid (cmpN x y = 1) := by show _ = _; unfold cmpN; split <;> (try split) <;> omega
  have E2 : Hid (cmpN y x = (-1)) := by show _ = _; unfold cmpN; split <;> (try split) <;> omega
  have E3 : Hid (decide (x < y) = false) := by show _ = _; simp; omega
  have E4 : Hid ((if x < y then (2 : Int) else 0) = 0) := by show _ = _; split <;> omega
  have ED : Hid (x - y + (y - x) = 0 ↔ x = y) := by show _ ↔ _; omega
  have ES : Hid (y + (x - y + (y - x)) = x) := by show _ = _; omega
  have ESub : Hid (x + y - y = x) := by show _ = _; omega
  have HREL := Lib.hid hrel
  clear h h' R1 R2 A1 A2' V1 V2 hrel
  go_enter Try.func11, Try.ntmps11
  go_wp2_with fail
  refine (oneT_any).mono ?_
  rintro e w1 ⟨A_one, n_one, c_one, xs_one, rfl, o_one, a_one, v_one, hb1, l_one⟩
  have V_one := Lib.hid v_one
  clear v_one
  go_wp2_with fail
  refine (nadd_any ((Num.lit (t := 25) _ [18446744073709551615, 18446744073709551615] (by simp) (by simp [W_eq, All])).below hb1) (o_one.numv a_one V_one.out l_one) (by simp) (by omega)).mono ?_
  rintro e w2 ⟨A_s0, n_s0, c_s0, rfl, o_s0, hb2, l_s0⟩
  rw [HQ.out] at o_s0
  go_wp2_with fail
  refine (sameT_yes (o_s0.rd.alloc _) (Rd.litn (k := .u64) (t := 25) _ [0, 0, 1] rfl (by decide)) rfl (by simp at l_s0; omega)).mono ?_
  rintro e wz ⟨rfl, hbz⟩
  clear o_s0 o_one
  go_wp2_with fail
  refine (copyN_any (((((H.out.below ((Below.refl _ _).alloc (Nat.le_refl _) _)).below hb1).below hb2).below ((Below.refl _ _).alloc (Nat.le_refl _) _)).below hbz) (by omega)).mono ?_
  rintro e w3 ⟨A_ca, n_ca, c_ca, xs_ca, rfl, o_ca, a_ca, v_ca, hb3, l_ca⟩
  have V_ca := Lib.hid v_ca
  clear v_ca
  go_wp2_with fail
  refine (nnorm_any (o_ca.numv a_ca V_ca.out l_ca) (by omega)).mono ?_
  rintro e w4 ⟨A_x, n_x, c_x, rfl, o_x, hb4, l_x⟩
  go_wp2_with fail
  refine (copyN_any (((((((H'.out.below ((Below.refl _ _).alloc (Nat.le_refl _) _)).below hb1).below hb2).below ((Below.refl _ _).alloc (Nat.le_refl _) _)).below hbz).below hb3).below hb4) (by omega)).mono ?_
  rintro e w5 ⟨A_cb, n_cb, c_cb, xs_cb, rfl, o_cb, a_cb, v_cb, hb5, l_cb⟩
  have V_cb := Lib.hid v_cb
  clear v_cb
  go_wp2_with fail
  refine (nnorm_any (o_cb.numv a_cb V_cb.out l_cb) (by omega)).mono ?_
  rintro e w6 ⟨A_y, n_y, c_y, rfl, o_y, hb6, l_y⟩
  go_wp2_with fail
  refine (copyN_any (((((((((H.out.below ((Below.refl _ _).alloc (Nat.le_refl _) _)).below hb1).below hb2).below ((Below.refl _ _).alloc (Nat.le_refl _) _)).below hbz).below hb3).below hb4).below hb5).below hb6) (by omega)).mono ?_
  rintro e w7 ⟨A_ca1, n_ca1, c_ca1, xs_ca1, rfl, o_ca1, a_ca1, v_ca1, hb7, l_ca1⟩
  have V_ca1 := Lib.hid v_ca1
  clear v_ca1
  go_wp2_with fail
  refine (copyN_any ((((((((((H'.out.below ((Below.refl _ _).alloc (Nat.le_refl _) _)).below hb1).below hb2).below ((Below.refl _ _).alloc (Nat.le_refl _) _)).below hbz).below hb3).below hb4).below hb5).below hb6).below hb7) (by omega)).mono ?_
  rintro e w8 ⟨A_cb1, n_cb1, c_cb1, xs_cb1, rfl, o_cb1, a_cb1, v_cb1, hb8, l_cb1⟩
  have V_cb1 := Lib.hid v_cb1
  clear v_cb1
  go_wp2_with fail
  refine (nadd_any ((o_ca1.numv a_ca1 V_ca1.out l_ca1).below hb8) (o_cb1.numv a_cb1 V_cb1.out l_cb1) (by omega) (by omega)).mono ?_
  rintro e w9 ⟨A_s, n_s, c_s, rfl, o_s, hb9, l_s⟩
  go_wp2_with fail
  refine (copyN_any (o_s.num l_s) (by omega)).mono ?_
  rintro e w10 ⟨A_cs, n_cs, c_cs, xs_cs, rfl, o_cs, a_cs, v_cs, hb10, l_cs⟩
  have V_cs := Lib.hid v_cs
  clear v_cs
  go_wp2_with fail
  refine (copyN_any (((((((((((((H'.out.below ((Below.refl _ _).alloc (Nat.le_refl _) _)).below hb1).below hb2).below ((Below.refl _ _).alloc (Nat.le_refl _) _)).below hbz).below hb3).below hb4).below hb5).below hb6).below hb7).below hb8).below hb9).below hb10) (by omega)).mono ?_
  rintro e w11 ⟨A_cb2, n_cb2, c_cb2, xs_cb2, rfl, o_cb2, a_cb2, v_cb2, hb11, l_cb2⟩
  have V_cb2 := Lib.hid v_cb2
  clear v_cb2
  go_wp2_with fail
  refine (nsubE_any ((o_cs.numv a_cs V_cs.out l_cs).below hb11) (o_cb2.numv a_cb2 V_cb2.out l_cb2) (by omega) (by omega) (by omega)).mono ?_
  rintro e w12 ⟨A_d, n_d, c_d, rfl, o_d, hb12, l_d⟩
  rw [ESub.out] at o_d
  go_wp2_with fail
  refine (sameT_yes o_d.rd ((((((((o_x.rd.below hb5).below hb6).below hb7).below hb8).below hb9).below hb10).below hb11).below hb12) rfl (by omega)).mono ?_
  rintro e w13 ⟨rfl, hb13⟩
  go_wp2_with fail
  refine (nisnorm_any ((((o_s.rd.below hb10).below hb11).below hb12).below hb13) (by omega)).mono ?_
  rintro e w' ⟨rfl, rfl⟩
  go_wp2_with fail
  refine (copyN_any ((((((((((((((((H'.out.below ((Below.refl _ _).alloc (Nat.le_refl _) _)).below hb1).below hb2).below ((Below.refl _ _).alloc (Nat.le_refl _) _)).below hbz).below hb3).below hb4).below hb5).below hb6).below hb7).below hb8).below hb9).below hb10).below hb11).below hb12).below hb13) (by omega)).mono ?_
  rintro e w15 ⟨A_cb3, n_cb3, c_cb3, xs_cb3, rfl, o_cb3, a_cb3, v_cb3, hb15, l_cb3⟩
  have V_cb3 := Lib.hid v_cb3
  clear v_cb3
  go_wp2_with fail
  refine (copyN_any (((((((((((((((((H.out.below ((Below.refl _ _).alloc (Nat.le_refl _) _)).below hb1).below hb2).below ((Below.refl _ _).alloc (Nat.le_refl _) _)).below hbz).below hb3).below hb4).below hb5).below hb6).below hb7).below hb8).below hb9).below hb10).below hb11).below hb12).below hb13).below hb15) (by omega)).mono ?_
  rintro e w16 ⟨A_ca3, n_ca3, c_ca3, xs_ca3, rfl, o_ca3, a_ca3, v_ca3, hb16, l_ca3⟩
  have V_ca3 := Lib.hid v_ca3
  clear v_ca3
  go_wp2_with fail
  refine (nadd_any ((o_cb3.numv a_cb3 V_cb3.out l_cb3).below hb16) (o_ca3.numv a_ca3 V_ca3.out l_ca3) (by omega) (by omega)).mono ?_
  rintro e w17 ⟨A_s3, n_s3, c_s3, rfl, o_s3, hb17, l_s3⟩
  go_wp2_with fail
  refine (sameT_yes o_s3.rd (((((((o_s.rd.below hb10).below hb11).below hb12).below hb13).below hb15).below hb16).below hb17) (by rw [Nat.add_comm]) (by omega)).mono ?_
  rintro e w18 ⟨rfl, hb18⟩
  go_wp2_with fail
  refine (copyN_any ((((((((((((((((((((H.out.below ((Below.refl _ _).alloc (Nat.le_refl _) _)).below hb1).below hb2).below ((Below.refl _ _).alloc (Nat.le_refl _) _)).below hbz).below hb3).below hb4).below hb5).below hb6).below hb7).below hb8).below hb9).below hb10).below hb11).below hb12).below hb13).below hb15).below hb16).below hb17).below hb18) (by omega)).mono ?_
  rintro e w19 ⟨A_ca4, n_ca4, c_ca4, xs_ca4, rfl, o_ca4, a_ca4, v_ca4, hb19, l_ca4⟩
  have V_ca4 := Lib.hid v_ca4
  clear v_ca4
  go_wp2_with fail
  refine (copyN_any (((((((((((((((((((((H'.out.below ((Below.refl _ _).alloc (Nat.le_refl _) _)).below hb1).below hb2).below ((Below.refl _ _).alloc (Nat.le_refl _) _)).below hbz).below hb3).below hb4).below hb5).below hb6).below hb7).below hb8).below hb9).below hb10).below hb11).below hb12).below hb13).below hb15).below hb16).below hb17).below hb18).below hb19) (by omega)).mono ?_
  rintro e w20 ⟨A_cb4, n_cb4, c_cb4, xs_cb4, rfl, o_cb4, a_cb4, v_cb4, hb20, l_cb4⟩
  have V_cb4 := Lib.hid v_cb4
  clear v_cb4
  go_wp2_with fail
  have CD := Lib.hid (ndiff_any (w := w20) ((o_ca4.numv a_ca4 V_ca4.out l_ca4).below hb20) (o_cb4.numv a_cb4 V_cb4.out l_cb4) (by omega) (by omega))
  rw [E3.out] at CD
  go_wp2_with fail
  refine (CD.out).mono ?_
  rintro e w21 ⟨A_df, n_df, c_df, rfl, o_df, hb21, l_df⟩
  go_wp2_with fail
  refine (copyN_any (((((((((((((((((((((((H.out.below ((Below.refl _ _).alloc (Nat.le_refl _) _)).below hb1).below hb2).below ((Below.refl _ _).alloc (Nat.le_refl _) _)).below hbz).below hb3).below hb4).below hb5).below hb6).below hb7).below hb8).below hb9).below hb10).below hb11).below hb12).below hb13).below hb15).below hb16).below hb17).below hb18).below hb19).below hb20).below hb21) (by omega)).mono ?_
  rintro e w22 ⟨A_ca5, n_ca5, c_ca5, xs_ca5, rfl, o_ca5, a_ca5, v_ca5, hb22, l_ca5⟩
  have V_ca5 := Lib.hid v_ca5
  clear v_ca5
  go_wp2_with fail
  refine (copyN_any ((((((((((((((((((((((((H'.out.below ((Below.refl _ _).alloc (Nat.le_refl _) _)).below hb1).below hb2).below ((Below.refl _ _).alloc (Nat.le_refl _) _)).below hbz).below hb3).below hb4).below hb5).below hb6).below hb7).below hb8).below hb9).below hb10).below hb11).below hb12).below hb13).below hb15).below hb16).below hb17).below hb18).below hb19).below hb20).below hb21).below hb22) (by omega)).mono ?_
  rintro e w23 ⟨A_cb5, n_cb5, c_cb5, xs_cb5, rfl, o_cb5, a_cb5, v_cb5, hb23, l_cb5⟩
  have V_cb5 := Lib.hid v_cb5
  clear v_cb5
  go_wp2_with fail
  have CC := Lib.hid (ncmp_any (w := w23) ((o_ca5.numv a_ca5 V_ca5.out l_ca5).below hb23) (o_cb5.numv a_cb5 V_cb5.out l_cb5) (by omega) (by omega))
  rw [E1.out] at CC
  go_wp2_with fail
  refine (CC.out).mono ?_
  rintro e w' ⟨rfl, rfl⟩
  go_wp2_with fail
  refine (copyN_any (((((((((((((((((((((((((H.out.below ((Below.refl _ _).alloc (Nat.le_refl _) _)).below hb1).below hb2).below ((Below.refl _ _).alloc (Nat.le_refl _) _)).below hbz).below hb3).below hb4).below hb5).below hb6).below hb7).below hb8).below hb9).below hb10).below hb11).below hb12).below hb13).below hb15).below hb16).below hb17).below hb18).below hb19).below hb20).below hb21).below hb22).below hb23) (by omega)).mono ?_
  rintro e w25 ⟨A_ca6, n_ca6, c_ca6, xs_ca6, rfl, o_ca6, a_ca6, v_ca6, hb25, l_ca6⟩
  have V_ca6 := Lib.hid v_ca6
  clear v_ca6
  go_wp2_with fail
  refine (copyN_any ((((((((((((((((((((((((((H'.out.below ((Below.refl _ _).alloc (Nat.le_refl _) _)).below hb1).below hb2).below ((Below.refl _ _).alloc (Nat.le_refl _) _)).below hbz).below hb3).below hb4).below hb5).below hb6).below hb7).below hb8).below hb9).below hb10).below hb11).below hb12).below hb13).below hb15).below hb16).below hb17).below hb18).below hb19).below hb20).below hb21).below hb22).below hb23).below hb25) (by omega)).mono ?_
  rintro e w26 ⟨A_cb6, n_cb6, c_cb6, xs_cb6, rfl, o_cb6, a_cb6, v_cb6, hb26, l_cb6⟩
  have V_cb6 := Lib.hid v_cb6
  clear v_cb6
  go_wp2_with fail
  have CE := Lib.hid (nsub_all (w := w26) ((o_ca6.numv a_ca6 V_ca6.out l_ca6).below hb26) (o_cb6.numv a_cb6 V_cb6.out l_cb6) (by omega) (by omega))
  rw [E4.out] at CE
  have hdz := own_zero o_df
  have dlen : ((n_df : Int) == 0) = false := by rw [beq_eq_false_iff_ne]; have := HREL.out; have := ED.out; omega
  go_wp2_with fail
  refine (CE.out).mono ?_
  rintro e w27 ⟨A_e, n_e, c_e, rfl, o_e, hb27, l_e⟩
  go_wp2_with fail
  refine (copyN_any ((((((((((((((((((((((((((((H'.out.below ((Below.refl _ _).alloc (Nat.le_refl _) _)).below hb1).below hb2).below ((Below.refl _ _).alloc (Nat.le_refl _) _)).below hbz).below hb3).below hb4).below hb5).below hb6).below hb7).below hb8).below hb9).below hb10).below hb11).below hb12).below hb13).below hb15).below hb16).below hb17).below hb18).below hb19).below hb20).below hb21).below hb22).below hb23).below hb25).below hb26).below hb27) (by omega)).mono ?_
  rintro e w28 ⟨A_cb7, n_cb7, c_cb7, xs_cb7, rfl, o_cb7, a_cb7, v_cb7, hb28, l_cb7⟩
  have V_cb7 := Lib.hid v_cb7
  clear v_cb7
  go_wp2_with fail
  refine (copyN_any (((((((((((((((((((((((((((((H.out.below ((Below.refl _ _).alloc (Nat.le_refl _) _)).below hb1).below hb2).below ((Below.refl _ _).alloc (Nat.le_refl _) _)).below hbz).below hb3).below hb4).below hb5).below hb6).below hb7).below hb8).below hb9).below hb10).below hb11).below hb12).below hb13).below hb15).below hb16).below hb17).below hb18).below hb19).below hb20).below hb21).below hb22).below hb23).below hb25).below hb26).below hb27).below hb28) (by omega)).mono ?_
  rintro e w29 ⟨A_ca7, n_ca7, c_ca7, xs_ca7, rfl, o_ca7, a_ca7, v_ca7, hb29, l_ca7⟩
  have V_ca7 := Lib.hid v_ca7
  clear v_ca7
  go_wp2_with fail
  have CF := Lib.hid (ncmp_any (w := w29) ((o_cb7.numv a_cb7 V_cb7.out l_cb7).below hb29) (o_ca7.numv a_ca7 V_ca7.out l_ca7) (by omega) (by omega))
  rw [E2.out] at CF
  clear dlen
  go_wp2_with fail
  refine (CF.out).mono ?_
  rintro e w' ⟨rfl, rfl⟩
  go_wp2_with fail
  refine (nadd_any ((((((((((((((((((((((o_y.num l_y).below hb7).below hb8).below hb9).below hb10).below hb11).below hb12).below hb13).below hb15).below hb16).below hb17).below hb18).below hb19).below hb20).below hb21).below hb22).below hb23).below hb25).below hb26).below hb27).below hb28).below hb29) ((((((((o_df.num l_df).below hb22).below hb23).below hb25).below hb26).below hb27).below hb28).below hb29) (by omega) (by omega)).mono ?_
  rintro e w31 ⟨A_sm, n_sm, c_sm, rfl, o_sm, hb31, l_sm⟩
  rw [ES.out] at o_sm
  go_wp2_with fail
  refine (sameT_yes o_sm.rd ((((((((((((((((((((((((o_x.rd.below hb5).below hb6).below hb7).below hb8).below hb9).below hb10).below hb11).below hb12).below hb13).below hb15).below hb16).below hb17).below hb18).below hb19).below hb20).below hb21).below hb22).below hb23).below hb25).below hb26).below hb27).below hb28).below hb29).below hb31) rfl (by omega)).mono ?_
  rintro e w32 ⟨rfl, hb32⟩
  go_wp2_with fail
  refine (shiftsBack_any ((((((((((((((((((((((((((((((((H.out.below ((Below.refl _ _).alloc (Nat.le_refl _) _)).below hb1).below hb2).below ((Below.refl _ _).alloc (Nat.le_refl _) _)).below hbz).below hb3).below hb4).below hb5).below hb6).below hb7).below hb8).below hb9).below hb10).below hb11).below hb12).below hb13).below hb15).below hb16).below hb17).below hb18).below hb19).below hb20).below hb21).below hb22).below hb23).below hb25).below hb26).below hb27).below hb28).below hb29).below hb31).below hb32) (by omega)).mono ?_
  rintro e w33 ⟨rfl, hb33⟩
  go_wp2_with fail
  refine (wordsAlike_any (((((((((((((((((((((((((((((((((RX.out.below ((Below.refl _ _).alloc (Nat.le_refl _) _)).below hb1).below hb2).below ((Below.refl _ _).alloc (Nat.le_refl _) _)).below hbz).below hb3).below hb4).below hb5).below hb6).below hb7).below hb8).below hb9).below hb10).below hb11).below hb12).below hb13).below hb15).below hb16).below hb17).below hb18).below hb19).below hb20).below hb21).below hb22).below hb23).below hb25).below hb26).below hb27).below hb28).below hb29).below hb31).below hb32).below hb33) (((((((((((((((((((((((((((((((((RY.out.below ((Below.refl _ _).alloc (Nat.le_refl _) _)).below hb1).below hb2).below ((Below.refl _ _).alloc (Nat.le_refl _) _)).below hbz).below hb3).below hb4).below hb5).below hb6).below hb7).below hb8).below hb9).below hb10).below hb11).below hb12).below hb13).below hb15).below hb16).below hb17).below hb18).below hb19).below hb20).below hb21).below hb22).below hb23).below hb25).below hb26).below hb27).below hb28).below hb29).below hb31).below hb32).below hb33) AX.out AY.out (by omega) (by omega)).mono ?_
  rintro e w34 ⟨rfl, hb34⟩
  go_wp2
  go_ret
  exact ⟨rfl, (bt (bt (bt (bt (bt (bt (bt (bt (bt (bt (bt (bt (bt (bt (bt (bt (bt (bt (bt (bt (bt (bt (bt (bt (bt (bt (bt (bt (bt (bt (bt (bt (bt ((Below.refl _ _).alloc (Nat.le_refl _) _) hb1) hb2) ((Below.refl _ _).alloc (Nat.le_refl _) _)) hbz) hb3) hb4) hb5) hb6) hb7) hb8) hb9) hb10) hb11) hb12) hb13) hb15) hb16) hb17) hb18) hb19) hb20) hb21) hb22) hb23) hb25) hb26) hb27) hb28) hb29) hb31) hb32) hb33) hb34)⟩
theorem surdCarries_any {A A2 : Option Addr} {n c m c2 x y : Nat} {z : Int} {w : World} (h : Num w (.slice A n c) x n) (h' : Num w (.slice A2 m c2) y m) (hn : n ≤ 1048576) (hm : m ≤ 1048576) :
    Calls Try.prog 11 #[.slice A n c, .slice A2 m c2, .int .i64 z] w (Keeps (.bool true) w) := by
  rcases Nat.lt_trichotomy x y with h0 | h0 | h0
  · exact carries_lt h h' hn hm h0
  · exact carries_eq h h' hn hm h0
  · exact carries_gt h h' hn hm h0
end Go.Proofs.Ytgiecdokjmcogaa
