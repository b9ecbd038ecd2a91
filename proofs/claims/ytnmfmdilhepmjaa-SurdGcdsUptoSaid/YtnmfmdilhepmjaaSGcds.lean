/-
  SurdGcds.
-/
import Derived.Test.YtnmfmdilhepmjaaGcdD
namespace Go.Proofs.Ytnmfmdilhepmjaa
open Go.RowKit
set_option linter.unusedVariables false

theorem gcd12 : dg W (Nat.gcd (val W [12]) (val W [18])) = [6] := by
  have := norm_dg (b := W) (xs := [6]) W_gt (by simp [All, W_eq]) (by simp [Norm, strip])
  rw [this]
  simp [val]
theorem Nums.lit3 {t : TypeId} {b : Nat} {w : World} {v1 v2 v3 : Value} {x1 x2 x3 l1 l2 l3 : Nat} (hb : b = w.heap.size) (h1 : Num w v1 x1 l1) (h2 : Num w v2 x2 l2) (h3 : Num w v3 x3 l3) :
    Nums (w.alloc (.cells #[v1, v2, v3] t)) (some ⟨b, 0, none⟩) 3 3 [x1, x2, x3] [l1, l2, l3] := by
  subst hb
  have hb := (Below.refl w.heap.size w).alloc (Nat.le_refl _) (.cells #[v1, v2, v3] t)
  refine ⟨⟨rfl, rfl, Nat.le_refl _⟩, fun _ => ⟨_, _, rfl, by simp, fun i hi => ?_⟩⟩
  rcases (show i = 0 ∨ i = 1 ∨ i = 2 by omega) with rfl | rfl | rfl
  · exact ⟨v1, by simp [go_sem], h1.below hb⟩
  · exact ⟨v2, by simp [go_sem], h2.below hb⟩
  · exact ⟨v3, by simp [go_sem], h3.below hb⟩
theorem one_word {xs : List Nat} (ha : All W xs) (hv : val W xs = 1) (hl : xs.length ≤ 1) : xs = dg W 1 := by
  match xs, hl with
  | [], _ => simp [val] at hv
  | [x], _ =>
    simp [val] at hv
    subst hv
    exact norm_dg (b := W) (xs := [1]) W_gt ha (by simp [Norm, strip]) |>.trans (by simp [val])
theorem dg_inj {x y : Nat} : (dg W x = dg W y) ↔ x = y := ⟨fun h => by rw [← dg_val W_gt x, h, dg_val W_gt], fun h => by rw [h]⟩
set_option maxHeartbeats 16000000 in
set_option maxRecDepth 100000 in
theorem surdGcds_pos {v u t : Value} {x y z L K M : Nat} {w : World} (h : Num w v x L) (h' : Num w u y K) (h'' : Num w t z M) (hg : 0 < Nat.gcd x y) (hL : L ≤ 1048576) (hK : K ≤ 1048576) (hM : M ≤ 1048576) : Calls Try.prog 5 #[v, u, t] w (Keeps (.bool true) w) := by
  have EQ1 := Lib.hid gcd12
  have EQ2 : Hid (dg W ((Nat.gcd x y) * (Nat.lcm x y)) = dg W (x * y)) := by show _ = _; rw [Nat.gcd_mul_lcm]
  have EQ3 : Hid (dg W (Nat.gcd y x) = dg W (Nat.gcd x y)) := by show _ = _; rw [Nat.gcd_comm]
  have EQ4 : Hid (dg W (Nat.gcd (x * z) (y * z)) = dg W ((Nat.gcd x y) * z)) := by show _ = _; rw [Nat.gcd_mul_right]
  have EQ6 : Hid (dg W (Nat.gcd (Nat.gcd x y) z) = dg W (gall [z, x, y])) := by
    show _ = _
    congr 1
    simp only [gall, List.foldl_cons, List.foldl_nil, Nat.gcd_zero_left]
    rw [Nat.gcd_assoc z, Nat.gcd_comm z]
  have EX1 : Hid (x % Nat.gcd x y = 0) := Nat.mod_eq_zero_of_dvd (Nat.gcd_dvd_left x y)
  have EX2 : Hid (y % Nat.gcd x y = 0) := Nat.mod_eq_zero_of_dvd (Nat.gcd_dvd_right x y)
  have HG := Lib.hid hg
  have H := Lib.hid h
  have H' := Lib.hid h'
  have H'' := Lib.hid h''
  obtain ⟨_, _, _, _, rfl, _⟩ := id h
  obtain ⟨_, _, _, _, rfl, _⟩ := id h'
  obtain ⟨_, _, _, _, rfl, _⟩ := id h''
  clear h h' h'' hg
  go_enter Try.func5, Try.ntmps5
  go_wp2_with fail
  refine (gcd_any (((Num.lit (t := 26) _ [12] (by simp) (by simp [W_eq, All])).mono (L' := 1) (by simp)).below ((Below.refl _ _).alloc (Nat.le_refl _) _)) ((Num.lit (t := 26) _ [18] (by simp) (by simp [W_eq, All])).mono (L' := 1) (by simp)) (by omega) (by omega)).mono ?_
  rintro e w1 ⟨A_r14, n_r14, c_r14, rfl, o_r14, hb1, l_r14⟩
  go_wp2_with fail
  refine (sameT_yes (o_r14.rd.below ((Below.refl _ _).alloc (Nat.le_refl _) _)) (Rd.litn _ [6] (by simp) (by simp)) EQ1.out (by omega)).mono ?_
  rintro e w2 ⟨rfl, hb2⟩
  go_wp2_with fail
  refine (copyN_any (((((H.out.below ((Below.refl _ _).alloc (Nat.le_refl _) _)).below ((Below.refl _ _).alloc (Nat.le_refl _) _)).below hb1).below ((Below.refl _ _).alloc (Nat.le_refl _) _)).below hb2) (by omega)).mono ?_
  rintro e w3 ⟨A_r19, n_r19, c_r19, xs_r19, rfl, o_r19, a_r19, v_r19, hb3, l_r19⟩
  have V_r19 := Lib.hid v_r19
  clear v_r19
  go_wp2_with fail
  refine (copyN_any ((((((H'.out.below ((Below.refl _ _).alloc (Nat.le_refl _) _)).below ((Below.refl _ _).alloc (Nat.le_refl _) _)).below hb1).below ((Below.refl _ _).alloc (Nat.le_refl _) _)).below hb2).below hb3) (by omega)).mono ?_
  rintro e w4 ⟨A_r21, n_r21, c_r21, xs_r21, rfl, o_r21, a_r21, v_r21, hb4, l_r21⟩
  have V_r21 := Lib.hid v_r21
  clear v_r21
  go_wp2_with fail
  refine (gcd_any ((o_r19.numv a_r19 V_r19.out l_r19).below hb4) (o_r21.numv a_r21 V_r21.out l_r21) (by omega) (by omega)).mono ?_
  rintro e w5 ⟨A_r22, n_r22, c_r22, rfl, o_r22, hb5, l_r22⟩
  go_wp2_with fail
  refine (copyN_any ((((((((H.out.below ((Below.refl _ _).alloc (Nat.le_refl _) _)).below ((Below.refl _ _).alloc (Nat.le_refl _) _)).below hb1).below ((Below.refl _ _).alloc (Nat.le_refl _) _)).below hb2).below hb3).below hb4).below hb5) (by omega)).mono ?_
  rintro e w6 ⟨A_r24, n_r24, c_r24, xs_r24, rfl, o_r24, a_r24, v_r24, hb6, l_r24⟩
  have V_r24 := Lib.hid v_r24
  clear v_r24
  go_wp2_with fail
  refine (copyN_any (((((((((H'.out.below ((Below.refl _ _).alloc (Nat.le_refl _) _)).below ((Below.refl _ _).alloc (Nat.le_refl _) _)).below hb1).below ((Below.refl _ _).alloc (Nat.le_refl _) _)).below hb2).below hb3).below hb4).below hb5).below hb6) (by omega)).mono ?_
  rintro e w7 ⟨A_r26, n_r26, c_r26, xs_r26, rfl, o_r26, a_r26, v_r26, hb7, l_r26⟩
  have V_r26 := Lib.hid v_r26
  clear v_r26
  go_wp2_with fail
  refine (lcm_any ((o_r24.numv a_r24 V_r24.out l_r24).below hb7) (o_r26.numv a_r26 V_r26.out l_r26) (by omega) (by omega)).mono ?_
  rintro e w8 ⟨A_r27, n_r27, c_r27, rfl, o_r27, hb8, l_r27⟩
  go_wp2_with fail
  refine (copyN_any ((((o_r22.num l_r22).below hb6).below hb7).below hb8) (by omega)).mono ?_
  rintro e w9 ⟨A_r29, n_r29, c_r29, xs_r29, rfl, o_r29, a_r29, v_r29, hb9, l_r29⟩
  have V_r29 := Lib.hid v_r29
  clear v_r29
  go_wp2_with fail
  refine (copyN_any ((o_r27.num l_r27).below hb9) (by omega)).mono ?_
  rintro e w10 ⟨A_r31, n_r31, c_r31, xs_r31, rfl, o_r31, a_r31, v_r31, hb10, l_r31⟩
  have V_r31 := Lib.hid v_r31
  clear v_r31
  go_wp2_with fail
  refine (mul_any ((o_r29.numv a_r29 V_r29.out l_r29).below hb10) (o_r31.numv a_r31 V_r31.out l_r31) (by omega) (by omega)).mono ?_
  rintro e w11 ⟨A_r32, n_r32, c_r32, rfl, o_r32, hb11, l_r32⟩
  go_wp2_with fail
  refine (copyN_any ((((((((((((((H.out.below ((Below.refl _ _).alloc (Nat.le_refl _) _)).below ((Below.refl _ _).alloc (Nat.le_refl _) _)).below hb1).below ((Below.refl _ _).alloc (Nat.le_refl _) _)).below hb2).below hb3).below hb4).below hb5).below hb6).below hb7).below hb8).below hb9).below hb10).below hb11) (by omega)).mono ?_
  rintro e w12 ⟨A_r34, n_r34, c_r34, xs_r34, rfl, o_r34, a_r34, v_r34, hb12, l_r34⟩
  have V_r34 := Lib.hid v_r34
  clear v_r34
  go_wp2_with fail
  refine (copyN_any (((((((((((((((H'.out.below ((Below.refl _ _).alloc (Nat.le_refl _) _)).below ((Below.refl _ _).alloc (Nat.le_refl _) _)).below hb1).below ((Below.refl _ _).alloc (Nat.le_refl _) _)).below hb2).below hb3).below hb4).below hb5).below hb6).below hb7).below hb8).below hb9).below hb10).below hb11).below hb12) (by omega)).mono ?_
  rintro e w13 ⟨A_r36, n_r36, c_r36, xs_r36, rfl, o_r36, a_r36, v_r36, hb13, l_r36⟩
  have V_r36 := Lib.hid v_r36
  clear v_r36
  go_wp2_with fail
  refine (mul_any ((o_r34.numv a_r34 V_r34.out l_r34).below hb13) (o_r36.numv a_r36 V_r36.out l_r36) (by omega) (by omega)).mono ?_
  rintro e w14 ⟨A_r37, n_r37, c_r37, rfl, o_r37, hb14, l_r37⟩
  go_wp2_with fail
  refine (sameT_yes (((o_r32.rd.below hb12).below hb13).below hb14) o_r37.rd EQ2.out (by omega)).mono ?_
  rintro e w15 ⟨rfl, hb15⟩
  go_wp2_with fail
  refine (copyN_any ((((((((((((((((((H'.out.below ((Below.refl _ _).alloc (Nat.le_refl _) _)).below ((Below.refl _ _).alloc (Nat.le_refl _) _)).below hb1).below ((Below.refl _ _).alloc (Nat.le_refl _) _)).below hb2).below hb3).below hb4).below hb5).below hb6).below hb7).below hb8).below hb9).below hb10).below hb11).below hb12).below hb13).below hb14).below hb15) (by omega)).mono ?_
  rintro e w16 ⟨A_r42, n_r42, c_r42, xs_r42, rfl, o_r42, a_r42, v_r42, hb16, l_r42⟩
  have V_r42 := Lib.hid v_r42
  clear v_r42
  go_wp2_with fail
  refine (copyN_any (((((((((((((((((((H.out.below ((Below.refl _ _).alloc (Nat.le_refl _) _)).below ((Below.refl _ _).alloc (Nat.le_refl _) _)).below hb1).below ((Below.refl _ _).alloc (Nat.le_refl _) _)).below hb2).below hb3).below hb4).below hb5).below hb6).below hb7).below hb8).below hb9).below hb10).below hb11).below hb12).below hb13).below hb14).below hb15).below hb16) (by omega)).mono ?_
  rintro e w17 ⟨A_r44, n_r44, c_r44, xs_r44, rfl, o_r44, a_r44, v_r44, hb17, l_r44⟩
  have V_r44 := Lib.hid v_r44
  clear v_r44
  go_wp2_with fail
  refine (gcd_any ((o_r42.numv a_r42 V_r42.out l_r42).below hb17) (o_r44.numv a_r44 V_r44.out l_r44) (by omega) (by omega)).mono ?_
  rintro e w18 ⟨A_r45, n_r45, c_r45, rfl, o_r45, hb18, l_r45⟩
  go_wp2_with fail
  refine (sameT_yes o_r45.rd (((((((((((((o_r22.rd.below hb6).below hb7).below hb8).below hb9).below hb10).below hb11).below hb12).below hb13).below hb14).below hb15).below hb16).below hb17).below hb18) EQ3.out (by omega)).mono ?_
  rintro e w19 ⟨rfl, hb19⟩
  have gp1 := len_pos o_r22 HG.out
  have gp2 : (0 : Int) < (n_r22 : Int) := by omega
  go_wp2_with fail
  refine (copyN_any (((((((((((((((o_r22.num l_r22).below hb6).below hb7).below hb8).below hb9).below hb10).below hb11).below hb12).below hb13).below hb14).below hb15).below hb16).below hb17).below hb18).below hb19) (by omega)).mono ?_
  rintro e w20 ⟨A_r55, n_r55, c_r55, xs_r55, rfl, o_r55, a_r55, v_r55, hb20, l_r55⟩
  have V_r55 := Lib.hid v_r55
  clear v_r55
  go_wp2_with fail
  refine (copyN_any (((((((((((((((((((((((H.out.below ((Below.refl _ _).alloc (Nat.le_refl _) _)).below ((Below.refl _ _).alloc (Nat.le_refl _) _)).below hb1).below ((Below.refl _ _).alloc (Nat.le_refl _) _)).below hb2).below hb3).below hb4).below hb5).below hb6).below hb7).below hb8).below hb9).below hb10).below hb11).below hb12).below hb13).below hb14).below hb15).below hb16).below hb17).below hb18).below hb19).below hb20) (by omega)).mono ?_
  rintro e w21 ⟨A_r57, n_r57, c_r57, xs_r57, rfl, o_r57, a_r57, v_r57, hb21, l_r57⟩
  have V_r57 := Lib.hid v_r57
  clear v_r57
  go_wp2_with fail
  refine (divides_yes (o_r57.numv a_r57 V_r57.out l_r57) ((o_r55.numv a_r55 V_r55.out l_r55).below hb21) HG.out EX1.out (by omega) (by omega)).mono ?_
  rintro e w22 ⟨rfl, hb22⟩
  go_wp2_with fail
  refine (copyN_any ((((((((((((((((((o_r22.num l_r22).below hb6).below hb7).below hb8).below hb9).below hb10).below hb11).below hb12).below hb13).below hb14).below hb15).below hb16).below hb17).below hb18).below hb19).below hb20).below hb21).below hb22) (by omega)).mono ?_
  rintro e w23 ⟨A_r62, n_r62, c_r62, xs_r62, rfl, o_r62, a_r62, v_r62, hb23, l_r62⟩
  have V_r62 := Lib.hid v_r62
  clear v_r62
  go_wp2_with fail
  refine (copyN_any ((((((((((((((((((((((((((H'.out.below ((Below.refl _ _).alloc (Nat.le_refl _) _)).below ((Below.refl _ _).alloc (Nat.le_refl _) _)).below hb1).below ((Below.refl _ _).alloc (Nat.le_refl _) _)).below hb2).below hb3).below hb4).below hb5).below hb6).below hb7).below hb8).below hb9).below hb10).below hb11).below hb12).below hb13).below hb14).below hb15).below hb16).below hb17).below hb18).below hb19).below hb20).below hb21).below hb22).below hb23) (by omega)).mono ?_
  rintro e w24 ⟨A_r64, n_r64, c_r64, xs_r64, rfl, o_r64, a_r64, v_r64, hb24, l_r64⟩
  have V_r64 := Lib.hid v_r64
  clear v_r64
  go_wp2_with fail
  refine (divides_yes (o_r64.numv a_r64 V_r64.out l_r64) ((o_r62.numv a_r62 V_r62.out l_r62).below hb24) HG.out EX2.out (by omega) (by omega)).mono ?_
  rintro e w25 ⟨rfl, hb25⟩
  clear gp1 gp2
  go_wp2_with fail
  refine (copyN_any ((((((((((((((((((((((((((((H.out.below ((Below.refl _ _).alloc (Nat.le_refl _) _)).below ((Below.refl _ _).alloc (Nat.le_refl _) _)).below hb1).below ((Below.refl _ _).alloc (Nat.le_refl _) _)).below hb2).below hb3).below hb4).below hb5).below hb6).below hb7).below hb8).below hb9).below hb10).below hb11).below hb12).below hb13).below hb14).below hb15).below hb16).below hb17).below hb18).below hb19).below hb20).below hb21).below hb22).below hb23).below hb24).below hb25) (by omega)).mono ?_
  rintro e w26 ⟨A_r70, n_r70, c_r70, xs_r70, rfl, o_r70, a_r70, v_r70, hb26, l_r70⟩
  have V_r70 := Lib.hid v_r70
  clear v_r70
  go_wp2_with fail
  refine (copyN_any (((((((((((((((((((((((((((((H''.out.below ((Below.refl _ _).alloc (Nat.le_refl _) _)).below ((Below.refl _ _).alloc (Nat.le_refl _) _)).below hb1).below ((Below.refl _ _).alloc (Nat.le_refl _) _)).below hb2).below hb3).below hb4).below hb5).below hb6).below hb7).below hb8).below hb9).below hb10).below hb11).below hb12).below hb13).below hb14).below hb15).below hb16).below hb17).below hb18).below hb19).below hb20).below hb21).below hb22).below hb23).below hb24).below hb25).below hb26) (by omega)).mono ?_
  rintro e w27 ⟨A_r72, n_r72, c_r72, xs_r72, rfl, o_r72, a_r72, v_r72, hb27, l_r72⟩
  have V_r72 := Lib.hid v_r72
  clear v_r72
  go_wp2_with fail
  refine (mul_any ((o_r70.numv a_r70 V_r70.out l_r70).below hb27) (o_r72.numv a_r72 V_r72.out l_r72) (by omega) (by omega)).mono ?_
  rintro e w28 ⟨A_r73, n_r73, c_r73, rfl, o_r73, hb28, l_r73⟩
  go_wp2_with fail
  refine (copyN_any (((((((((((((((((((((((((((((((H'.out.below ((Below.refl _ _).alloc (Nat.le_refl _) _)).below ((Below.refl _ _).alloc (Nat.le_refl _) _)).below hb1).below ((Below.refl _ _).alloc (Nat.le_refl _) _)).below hb2).below hb3).below hb4).below hb5).below hb6).below hb7).below hb8).below hb9).below hb10).below hb11).below hb12).below hb13).below hb14).below hb15).below hb16).below hb17).below hb18).below hb19).below hb20).below hb21).below hb22).below hb23).below hb24).below hb25).below hb26).below hb27).below hb28) (by omega)).mono ?_
  rintro e w29 ⟨A_r75, n_r75, c_r75, xs_r75, rfl, o_r75, a_r75, v_r75, hb29, l_r75⟩
  have V_r75 := Lib.hid v_r75
  clear v_r75
  go_wp2_with fail
  refine (copyN_any ((((((((((((((((((((((((((((((((H''.out.below ((Below.refl _ _).alloc (Nat.le_refl _) _)).below ((Below.refl _ _).alloc (Nat.le_refl _) _)).below hb1).below ((Below.refl _ _).alloc (Nat.le_refl _) _)).below hb2).below hb3).below hb4).below hb5).below hb6).below hb7).below hb8).below hb9).below hb10).below hb11).below hb12).below hb13).below hb14).below hb15).below hb16).below hb17).below hb18).below hb19).below hb20).below hb21).below hb22).below hb23).below hb24).below hb25).below hb26).below hb27).below hb28).below hb29) (by omega)).mono ?_
  rintro e w30 ⟨A_r77, n_r77, c_r77, xs_r77, rfl, o_r77, a_r77, v_r77, hb30, l_r77⟩
  have V_r77 := Lib.hid v_r77
  clear v_r77
  go_wp2_with fail
  refine (mul_any ((o_r75.numv a_r75 V_r75.out l_r75).below hb30) (o_r77.numv a_r77 V_r77.out l_r77) (by omega) (by omega)).mono ?_
  rintro e w31 ⟨A_r78, n_r78, c_r78, rfl, o_r78, hb31, l_r78⟩
  go_wp2_with fail
  refine (gcd_any ((((o_r73.num l_r73).below hb29).below hb30).below hb31) (o_r78.num l_r78) (by omega) (by omega)).mono ?_
  rintro e w32 ⟨A_r79, n_r79, c_r79, rfl, o_r79, hb32, l_r79⟩
  go_wp2_with fail
  refine (copyN_any ((((((((((((((((((((((((((((o_r22.num l_r22).below hb6).below hb7).below hb8).below hb9).below hb10).below hb11).below hb12).below hb13).below hb14).below hb15).below hb16).below hb17).below hb18).below hb19).below hb20).below hb21).below hb22).below hb23).below hb24).below hb25).below hb26).below hb27).below hb28).below hb29).below hb30).below hb31).below hb32) (by omega)).mono ?_
  rintro e w33 ⟨A_r81, n_r81, c_r81, xs_r81, rfl, o_r81, a_r81, v_r81, hb33, l_r81⟩
  have V_r81 := Lib.hid v_r81
  clear v_r81
  go_wp2_with fail
  refine (copyN_any ((((((((((((((((((((((((((((((((((((H''.out.below ((Below.refl _ _).alloc (Nat.le_refl _) _)).below ((Below.refl _ _).alloc (Nat.le_refl _) _)).below hb1).below ((Below.refl _ _).alloc (Nat.le_refl _) _)).below hb2).below hb3).below hb4).below hb5).below hb6).below hb7).below hb8).below hb9).below hb10).below hb11).below hb12).below hb13).below hb14).below hb15).below hb16).below hb17).below hb18).below hb19).below hb20).below hb21).below hb22).below hb23).below hb24).below hb25).below hb26).below hb27).below hb28).below hb29).below hb30).below hb31).below hb32).below hb33) (by omega)).mono ?_
  rintro e w34 ⟨A_r83, n_r83, c_r83, xs_r83, rfl, o_r83, a_r83, v_r83, hb34, l_r83⟩
  have V_r83 := Lib.hid v_r83
  clear v_r83
  go_wp2_with fail
  refine (mul_any ((o_r81.numv a_r81 V_r81.out l_r81).below hb34) (o_r83.numv a_r83 V_r83.out l_r83) (by omega) (by omega)).mono ?_
  rintro e w35 ⟨A_r84, n_r84, c_r84, rfl, o_r84, hb35, l_r84⟩
  go_wp2_with fail
  refine (sameT_yes (((o_r79.rd.below hb33).below hb34).below hb35) o_r84.rd EQ4.out (by omega)).mono ?_
  rintro e w36 ⟨rfl, hb36⟩
  go_wp2_with fail
  refine (copyN_any (((((((((((((((((((((((((((((((((((((((H.out.below ((Below.refl _ _).alloc (Nat.le_refl _) _)).below ((Below.refl _ _).alloc (Nat.le_refl _) _)).below hb1).below ((Below.refl _ _).alloc (Nat.le_refl _) _)).below hb2).below hb3).below hb4).below hb5).below hb6).below hb7).below hb8).below hb9).below hb10).below hb11).below hb12).below hb13).below hb14).below hb15).below hb16).below hb17).below hb18).below hb19).below hb20).below hb21).below hb22).below hb23).below hb24).below hb25).below hb26).below hb27).below hb28).below hb29).below hb30).below hb31).below hb32).below hb33).below hb34).below hb35).below hb36) (by omega)).mono ?_
  rintro e w37 ⟨A_r88, n_r88, c_r88, xs_r88, rfl, o_r88, a_r88, v_r88, hb37, l_r88⟩
  have V_r88 := Lib.hid v_r88
  clear v_r88
  go_wp2_with fail
  refine (copyN_any ((((((((((((((((((((((((((((((((((((((((H'.out.below ((Below.refl _ _).alloc (Nat.le_refl _) _)).below ((Below.refl _ _).alloc (Nat.le_refl _) _)).below hb1).below ((Below.refl _ _).alloc (Nat.le_refl _) _)).below hb2).below hb3).below hb4).below hb5).below hb6).below hb7).below hb8).below hb9).below hb10).below hb11).below hb12).below hb13).below hb14).below hb15).below hb16).below hb17).below hb18).below hb19).below hb20).below hb21).below hb22).below hb23).below hb24).below hb25).below hb26).below hb27).below hb28).below hb29).below hb30).below hb31).below hb32).below hb33).below hb34).below hb35).below hb36).below hb37) (by omega)).mono ?_
  rintro e w38 ⟨A_r90, n_r90, c_r90, xs_r90, rfl, o_r90, a_r90, v_r90, hb38, l_r90⟩
  have V_r90 := Lib.hid v_r90
  clear v_r90
  go_wp2_with fail
  refine (coprime_any ((o_r88.numv a_r88 V_r88.out l_r88).below hb38) (o_r90.numv a_r90 V_r90.out l_r90) (by omega) (by omega)).mono ?_
  rintro e w39 ⟨rfl, hb39⟩
  go_wp2_with fail
  refine (oneT_any).mono ?_
  rintro e w40 ⟨A_r93, n_r93, c_r93, xs_r93, rfl, o_r93, a_r93, v_r93, hb40, l_r93⟩
  have V_r93 := Lib.hid v_r93
  clear v_r93
  have E93 := one_word a_r93 V_r93.out (by rw [o_r93.len]; exact l_r93)
  go_wp2_with fail
  have C93 := Lib.hid (sameT_any (w := w40) (((((((((((((((((((((((((((((((((((o_r22.rd.below hb6).below hb7).below hb8).below hb9).below hb10).below hb11).below hb12).below hb13).below hb14).below hb15).below hb16).below hb17).below hb18).below hb19).below hb20).below hb21).below hb22).below hb23).below hb24).below hb25).below hb26).below hb27).below hb28).below hb29).below hb30).below hb31).below hb32).below hb33).below hb34).below hb35).below hb36).below hb37).below hb38).below hb39).below hb40) o_r93.rd (by omega))
  have D93 : decide (dg W (Nat.gcd x y) = xs_r93) = decide (Nat.gcd x y = 1) := by rw [E93]; simp only [dg_inj]
  rw [D93] at C93
  generalize decide (Nat.gcd x y = 1) = bb at *
  clear D93 E93
  go_wp2_with fail
  refine (C93.out).mono ?_
  rintro e w41 ⟨rfl, q41, rfl⟩
  go_wp2_with fail
  refine (copyN_any ((((((((((((((((((((((((((((((((((((((((((((H.out.below ((Below.refl _ _).alloc (Nat.le_refl _) _)).below ((Below.refl _ _).alloc (Nat.le_refl _) _)).below hb1).below ((Below.refl _ _).alloc (Nat.le_refl _) _)).below hb2).below hb3).below hb4).below hb5).below hb6).below hb7).below hb8).below hb9).below hb10).below hb11).below hb12).below hb13).below hb14).below hb15).below hb16).below hb17).below hb18).below hb19).below hb20).below hb21).below hb22).below hb23).below hb24).below hb25).below hb26).below hb27).below hb28).below hb29).below hb30).below hb31).below hb32).below hb33).below hb34).below hb35).below hb36).below hb37).below hb38).below hb39).below hb40).below (below_drewN _ q41)) (by omega)).mono ?_
  rintro e w42 ⟨A_r98, n_r98, c_r98, xs_r98, rfl, o_r98, a_r98, v_r98, hb42, l_r98⟩
  have V_r98 := Lib.hid v_r98
  clear v_r98
  go_wp2_with fail
  refine (copyN_any (((((((((((((((((((((((((((((((((((((((((((((H'.out.below ((Below.refl _ _).alloc (Nat.le_refl _) _)).below ((Below.refl _ _).alloc (Nat.le_refl _) _)).below hb1).below ((Below.refl _ _).alloc (Nat.le_refl _) _)).below hb2).below hb3).below hb4).below hb5).below hb6).below hb7).below hb8).below hb9).below hb10).below hb11).below hb12).below hb13).below hb14).below hb15).below hb16).below hb17).below hb18).below hb19).below hb20).below hb21).below hb22).below hb23).below hb24).below hb25).below hb26).below hb27).below hb28).below hb29).below hb30).below hb31).below hb32).below hb33).below hb34).below hb35).below hb36).below hb37).below hb38).below hb39).below hb40).below (below_drewN _ q41)).below hb42) (by omega)).mono ?_
  rintro e w43 ⟨A_r100, n_r100, c_r100, xs_r100, rfl, o_r100, a_r100, v_r100, hb43, l_r100⟩
  have V_r100 := Lib.hid v_r100
  clear v_r100
  go_wp2_with fail
  refine (gcd_any ((o_r98.numv a_r98 V_r98.out l_r98).below hb43) (o_r100.numv a_r100 V_r100.out l_r100) (by omega) (by omega)).mono ?_
  rintro e w44 ⟨A_r101, n_r101, c_r101, rfl, o_r101, hb44, l_r101⟩
  go_wp2_with fail
  refine (copyN_any (((((((((((((((((((((((((((((((((((((((((((((((H''.out.below ((Below.refl _ _).alloc (Nat.le_refl _) _)).below ((Below.refl _ _).alloc (Nat.le_refl _) _)).below hb1).below ((Below.refl _ _).alloc (Nat.le_refl _) _)).below hb2).below hb3).below hb4).below hb5).below hb6).below hb7).below hb8).below hb9).below hb10).below hb11).below hb12).below hb13).below hb14).below hb15).below hb16).below hb17).below hb18).below hb19).below hb20).below hb21).below hb22).below hb23).below hb24).below hb25).below hb26).below hb27).below hb28).below hb29).below hb30).below hb31).below hb32).below hb33).below hb34).below hb35).below hb36).below hb37).below hb38).below hb39).below hb40).below (below_drewN _ q41)).below hb42).below hb43).below hb44) (by omega)).mono ?_
  rintro e w45 ⟨A_r103, n_r103, c_r103, xs_r103, rfl, o_r103, a_r103, v_r103, hb45, l_r103⟩
  have V_r103 := Lib.hid v_r103
  clear v_r103
  go_wp2_with fail
  refine (gcd_any ((o_r101.num l_r101).below hb45) (o_r103.numv a_r103 V_r103.out l_r103) (by omega) (by omega)).mono ?_
  rintro e w46 ⟨A_r104, n_r104, c_r104, rfl, o_r104, hb46, l_r104⟩
  go_wp2_with fail
  refine (copyN_any (((((((((((((((((((((((((((((((((((((((((((((((((H''.out.below ((Below.refl _ _).alloc (Nat.le_refl _) _)).below ((Below.refl _ _).alloc (Nat.le_refl _) _)).below hb1).below ((Below.refl _ _).alloc (Nat.le_refl _) _)).below hb2).below hb3).below hb4).below hb5).below hb6).below hb7).below hb8).below hb9).below hb10).below hb11).below hb12).below hb13).below hb14).below hb15).below hb16).below hb17).below hb18).below hb19).below hb20).below hb21).below hb22).below hb23).below hb24).below hb25).below hb26).below hb27).below hb28).below hb29).below hb30).below hb31).below hb32).below hb33).below hb34).below hb35).below hb36).below hb37).below hb38).below hb39).below hb40).below (below_drewN _ q41)).below hb42).below hb43).below hb44).below hb45).below hb46) (by omega)).mono ?_
  rintro e w47 ⟨A_r106, n_r106, c_r106, xs_r106, rfl, o_r106, a_r106, v_r106, hb47, l_r106⟩
  have V_r106 := Lib.hid v_r106
  clear v_r106
  go_wp2_with fail
  refine (copyN_any ((((((((((((((((((((((((((((((((((((((((((((((((((H.out.below ((Below.refl _ _).alloc (Nat.le_refl _) _)).below ((Below.refl _ _).alloc (Nat.le_refl _) _)).below hb1).below ((Below.refl _ _).alloc (Nat.le_refl _) _)).below hb2).below hb3).below hb4).below hb5).below hb6).below hb7).below hb8).below hb9).below hb10).below hb11).below hb12).below hb13).below hb14).below hb15).below hb16).below hb17).below hb18).below hb19).below hb20).below hb21).below hb22).below hb23).below hb24).below hb25).below hb26).below hb27).below hb28).below hb29).below hb30).below hb31).below hb32).below hb33).below hb34).below hb35).below hb36).below hb37).below hb38).below hb39).below hb40).below (below_drewN _ q41)).below hb42).below hb43).below hb44).below hb45).below hb46).below hb47) (by omega)).mono ?_
  rintro e w48 ⟨A_r108, n_r108, c_r108, xs_r108, rfl, o_r108, a_r108, v_r108, hb48, l_r108⟩
  have V_r108 := Lib.hid v_r108
  clear v_r108
  go_wp2_with fail
  refine (copyN_any (((((((((((((((((((((((((((((((((((((((((((((((((((H'.out.below ((Below.refl _ _).alloc (Nat.le_refl _) _)).below ((Below.refl _ _).alloc (Nat.le_refl _) _)).below hb1).below ((Below.refl _ _).alloc (Nat.le_refl _) _)).below hb2).below hb3).below hb4).below hb5).below hb6).below hb7).below hb8).below hb9).below hb10).below hb11).below hb12).below hb13).below hb14).below hb15).below hb16).below hb17).below hb18).below hb19).below hb20).below hb21).below hb22).below hb23).below hb24).below hb25).below hb26).below hb27).below hb28).below hb29).below hb30).below hb31).below hb32).below hb33).below hb34).below hb35).below hb36).below hb37).below hb38).below hb39).below hb40).below (below_drewN _ q41)).below hb42).below hb43).below hb44).below hb45).below hb46).below hb47).below hb48) (by omega)).mono ?_
  rintro e w49 ⟨A_r110, n_r110, c_r110, xs_r110, rfl, o_r110, a_r110, v_r110, hb49, l_r110⟩
  have V_r110 := Lib.hid v_r110
  clear v_r110
  go_wp2_with fail
  have nl0 := Nums.lit3 (t := 23) (b := w49.heap.size) rfl (((o_r106.numv a_r106 V_r106.out l_r106).below hb48).below hb49) ((o_r108.numv a_r108 V_r108.out l_r108).below hb49) (o_r110.numv a_r110 V_r110.out l_r110)
  go_wp2_with fail
  refine (all_any nl0 (by omega) (by simp [lsum]; omega)).mono ?_
  rintro e w50 ⟨A_r112, n_r112, c_r112, rfl, o_r112, hb50, l_r112⟩
  go_wp2_with fail
  refine (sameT_yes (((((o_r104.rd.below hb47).below hb48).below hb49).below ((Below.refl _ _).alloc (Nat.le_refl _) _)).below hb50) o_r112.rd EQ6.out (by omega)).mono ?_
  rintro e w51 ⟨rfl, hb51⟩
  go_wp2_with fail
  refine (copyN_any (((((((((((((((((((((((((((((((((((((((((((((((((((((((H.out.below ((Below.refl _ _).alloc (Nat.le_refl _) _)).below ((Below.refl _ _).alloc (Nat.le_refl _) _)).below hb1).below ((Below.refl _ _).alloc (Nat.le_refl _) _)).below hb2).below hb3).below hb4).below hb5).below hb6).below hb7).below hb8).below hb9).below hb10).below hb11).below hb12).below hb13).below hb14).below hb15).below hb16).below hb17).below hb18).below hb19).below hb20).below hb21).below hb22).below hb23).below hb24).below hb25).below hb26).below hb27).below hb28).below hb29).below hb30).below hb31).below hb32).below hb33).below hb34).below hb35).below hb36).below hb37).below hb38).below hb39).below hb40).below (below_drewN _ q41)).below hb42).below hb43).below hb44).below hb45).below hb46).below hb47).below hb48).below hb49).below ((Below.refl _ _).alloc (Nat.le_refl _) _)).below hb50).below hb51) (by omega)).mono ?_
  rintro e w52 ⟨A_r118, n_r118, c_r118, xs_r118, rfl, o_r118, a_r118, v_r118, hb52, l_r118⟩
  have V_r118 := Lib.hid v_r118
  clear v_r118
  go_wp2_with fail
  refine (copyN_any ((((((((((((((((((((((((((((((((((((((((((((((((((((((((H'.out.below ((Below.refl _ _).alloc (Nat.le_refl _) _)).below ((Below.refl _ _).alloc (Nat.le_refl _) _)).below hb1).below ((Below.refl _ _).alloc (Nat.le_refl _) _)).below hb2).below hb3).below hb4).below hb5).below hb6).below hb7).below hb8).below hb9).below hb10).below hb11).below hb12).below hb13).below hb14).below hb15).below hb16).below hb17).below hb18).below hb19).below hb20).below hb21).below hb22).below hb23).below hb24).below hb25).below hb26).below hb27).below hb28).below hb29).below hb30).below hb31).below hb32).below hb33).below hb34).below hb35).below hb36).below hb37).below hb38).below hb39).below hb40).below (below_drewN _ q41)).below hb42).below hb43).below hb44).below hb45).below hb46).below hb47).below hb48).below hb49).below ((Below.refl _ _).alloc (Nat.le_refl _) _)).below hb50).below hb51).below hb52) (by omega)).mono ?_
  rintro e w53 ⟨A_r120, n_r120, c_r120, xs_r120, rfl, o_r120, a_r120, v_r120, hb53, l_r120⟩
  have V_r120 := Lib.hid v_r120
  clear v_r120
  go_wp2_with fail
  refine (extended_any ((o_r118.numv a_r118 V_r118.out l_r118).below hb53) (o_r120.numv a_r120 V_r120.out l_r120) (by omega) (by omega)).mono ?_
  rintro e we ⟨s, k, neg, A_h, n_h, c_h, A_s, n_s, c_s, A_k, n_k, c_k, hok, rfl, ⟨o_h, o_s, o_k⟩, hbe, l_h, l_s, l_k⟩
  have HOK := Lib.hid hok.1
  clear hok
  rcases HOK.out with ⟨hn, hk0, hk⟩ | ⟨hn, hk⟩
  · subst hn
    have HK := Lib.hid hk
    clear hk hk0
    go_wp2_with fail
    go_wp2_with fail
    refine (sameT_yes ((o_h.rd.below ((Below.refl _ _).alloc (Nat.le_refl _) _)).below ((Below.refl _ _).alloc (Nat.le_refl _) _)) ((((((((((((((((((((((((((((((((((((((((((((((((((((o_r22.rd.below hb6).below hb7).below hb8).below hb9).below hb10).below hb11).below hb12).below hb13).below hb14).below hb15).below hb16).below hb17).below hb18).below hb19).below hb20).below hb21).below hb22).below hb23).below hb24).below hb25).below hb26).below hb27).below hb28).below hb29).below hb30).below hb31).below hb32).below hb33).below hb34).below hb35).below hb36).below hb37).below hb38).below hb39).below hb40).below (below_drewN _ q41)).below hb42).below hb43).below hb44).below hb45).below hb46).below hb47).below hb48).below hb49).below ((Below.refl _ _).alloc (Nat.le_refl _) _)).below hb50).below hb51).below hb52).below hb53).below hbe).below ((Below.refl _ _).alloc (Nat.le_refl _) _)).below ((Below.refl _ _).alloc (Nat.le_refl _) _)) rfl (by omega)).mono ?_
    rintro e w54 ⟨rfl, hb54⟩
    have e0 := (((At.boxb (i := 0) (t := 50) we #[.bool false, .slice A_s n_s c_s] rfl rfl).below ((Below.refl _ _).alloc (Nat.le_refl _) _)).below hb54).1
    have e1 := (((At.boxb (i := 1) (t := 50) we #[.bool false, .slice A_s n_s c_s] rfl rfl).below ((Below.refl _ _).alloc (Nat.le_refl _) _)).below hb54).1
    have e2 := ((At.boxb (i := 0) (t := 50) (b := we.heap.size + 1) _ #[.bool true, .slice A_k n_k c_k] rfl (by simp)).below hb54).1
    have e3 := ((At.boxb (i := 1) (t := 50) (b := we.heap.size + 1) _ #[.bool true, .slice A_k n_k c_k] rfl (by simp)).below hb54).1
    go_wp2_with fail
    refine (bezout_neg ((((((((((((((((((((((((((((((((((((((((((((((((((((((((((((((H.out.below ((Below.refl _ _).alloc (Nat.le_refl _) _)).below ((Below.refl _ _).alloc (Nat.le_refl _) _)).below hb1).below ((Below.refl _ _).alloc (Nat.le_refl _) _)).below hb2).below hb3).below hb4).below hb5).below hb6).below hb7).below hb8).below hb9).below hb10).below hb11).below hb12).below hb13).below hb14).below hb15).below hb16).below hb17).below hb18).below hb19).below hb20).below hb21).below hb22).below hb23).below hb24).below hb25).below hb26).below hb27).below hb28).below hb29).below hb30).below hb31).below hb32).below hb33).below hb34).below hb35).below hb36).below hb37).below hb38).below hb39).below hb40).below (below_drewN _ q41)).below hb42).below hb43).below hb44).below hb45).below hb46).below hb47).below hb48).below hb49).below ((Below.refl _ _).alloc (Nat.le_refl _) _)).below hb50).below hb51).below hb52).below hb53).below hbe).below ((Below.refl _ _).alloc (Nat.le_refl _) _)).below ((Below.refl _ _).alloc (Nat.le_refl _) _)).below hb54).mono (by omega)) ((((o_s.num (L := 4194304) (by omega)).below ((Below.refl _ _).alloc (Nat.le_refl _) _)).below ((Below.refl _ _).alloc (Nat.le_refl _) _)).below hb54) ((((((((((((((((((((((((((((((((((((((((((((((((((((((((((((((H'.out.below ((Below.refl _ _).alloc (Nat.le_refl _) _)).below ((Below.refl _ _).alloc (Nat.le_refl _) _)).below hb1).below ((Below.refl _ _).alloc (Nat.le_refl _) _)).below hb2).below hb3).below hb4).below hb5).below hb6).below hb7).below hb8).below hb9).below hb10).below hb11).below hb12).below hb13).below hb14).below hb15).below hb16).below hb17).below hb18).below hb19).below hb20).below hb21).below hb22).below hb23).below hb24).below hb25).below hb26).below hb27).below hb28).below hb29).below hb30).below hb31).below hb32).below hb33).below hb34).below hb35).below hb36).below hb37).below hb38).below hb39).below hb40).below (below_drewN _ q41)).below hb42).below hb43).below hb44).below hb45).below hb46).below hb47).below hb48).below hb49).below ((Below.refl _ _).alloc (Nat.le_refl _) _)).below hb50).below hb51).below hb52).below hb53).below hbe).below ((Below.refl _ _).alloc (Nat.le_refl _) _)).below ((Below.refl _ _).alloc (Nat.le_refl _) _)).below hb54).mono (by omega)) ((((o_k.num (L := 4194304) (by omega)).below ((Below.refl _ _).alloc (Nat.le_refl _) _)).below ((Below.refl _ _).alloc (Nat.le_refl _) _)).below hb54) (((((((((((((((((((((((((((((((((((((((((((((((((((((((o_r22.num l_r22).below hb6).below hb7).below hb8).below hb9).below hb10).below hb11).below hb12).below hb13).below hb14).below hb15).below hb16).below hb17).below hb18).below hb19).below hb20).below hb21).below hb22).below hb23).below hb24).below hb25).below hb26).below hb27).below hb28).below hb29).below hb30).below hb31).below hb32).below hb33).below hb34).below hb35).below hb36).below hb37).below hb38).below hb39).below hb40).below (below_drewN _ q41)).below hb42).below hb43).below hb44).below hb45).below hb46).below hb47).below hb48).below hb49).below ((Below.refl _ _).alloc (Nat.le_refl _) _)).below hb50).below hb51).below hb52).below hb53).below hbe).below ((Below.refl _ _).alloc (Nat.le_refl _) _)).below ((Below.refl _ _).alloc (Nat.le_refl _) _)).below hb54).mono (by omega)) HK.out (by omega)).mono ?_
    rintro e w55 ⟨rfl, hb55⟩
    go_wp2
    go_ret
    exact ⟨rfl, (bt (bt (bt (bt (bt (bt (bt (bt (bt (bt (bt (bt (bt (bt (bt (bt (bt (bt (bt (bt (bt (bt (bt (bt (bt (bt (bt (bt (bt (bt (bt (bt (bt (bt (bt (bt (bt (bt (bt (bt (bt (bt (bt (bt (bt (bt (bt (bt (bt (bt (bt (bt (bt (bt (bt (bt (bt (bt (bt (bt (bt ((Below.refl _ _).alloc (Nat.le_refl _) _) ((Below.refl _ _).alloc (Nat.le_refl _) _)) hb1) ((Below.refl _ _).alloc (Nat.le_refl _) _)) hb2) hb3) hb4) hb5) hb6) hb7) hb8) hb9) hb10) hb11) hb12) hb13) hb14) hb15) hb16) hb17) hb18) hb19) hb20) hb21) hb22) hb23) hb24) hb25) hb26) hb27) hb28) hb29) hb30) hb31) hb32) hb33) hb34) hb35) hb36) hb37) hb38) hb39) hb40) (below_drewN _ q41)) hb42) hb43) hb44) hb45) hb46) hb47) hb48) hb49) ((Below.refl _ _).alloc (Nat.le_refl _) _)) hb50) hb51) hb52) hb53) hbe) ((Below.refl _ _).alloc (Nat.le_refl _) _)) ((Below.refl _ _).alloc (Nat.le_refl _) _)) hb54) hb55)⟩
  · subst hn
    have HK := Lib.hid hk
    clear hk
    go_wp2_with fail
    go_wp2_with fail
    refine (sameT_yes ((o_h.rd.below ((Below.refl _ _).alloc (Nat.le_refl _) _)).below ((Below.refl _ _).alloc (Nat.le_refl _) _)) ((((((((((((((((((((((((((((((((((((((((((((((((((((o_r22.rd.below hb6).below hb7).below hb8).below hb9).below hb10).below hb11).below hb12).below hb13).below hb14).below hb15).below hb16).below hb17).below hb18).below hb19).below hb20).below hb21).below hb22).below hb23).below hb24).below hb25).below hb26).below hb27).below hb28).below hb29).below hb30).below hb31).below hb32).below hb33).below hb34).below hb35).below hb36).below hb37).below hb38).below hb39).below hb40).below (below_drewN _ q41)).below hb42).below hb43).below hb44).below hb45).below hb46).below hb47).below hb48).below hb49).below ((Below.refl _ _).alloc (Nat.le_refl _) _)).below hb50).below hb51).below hb52).below hb53).below hbe).below ((Below.refl _ _).alloc (Nat.le_refl _) _)).below ((Below.refl _ _).alloc (Nat.le_refl _) _)) rfl (by omega)).mono ?_
    rintro e w56 ⟨rfl, hb56⟩
    have e0 := (((At.boxb (i := 0) (t := 50) we #[.bool false, .slice A_s n_s c_s] rfl rfl).below ((Below.refl _ _).alloc (Nat.le_refl _) _)).below hb56).1
    have e1 := (((At.boxb (i := 1) (t := 50) we #[.bool false, .slice A_s n_s c_s] rfl rfl).below ((Below.refl _ _).alloc (Nat.le_refl _) _)).below hb56).1
    have e2 := ((At.boxb (i := 0) (t := 50) (b := we.heap.size + 1) _ #[.bool false, .slice A_k n_k c_k] rfl (by simp)).below hb56).1
    have e3 := ((At.boxb (i := 1) (t := 50) (b := we.heap.size + 1) _ #[.bool false, .slice A_k n_k c_k] rfl (by simp)).below hb56).1
    go_wp2_with fail
    refine (bezout_pos ((((((((((((((((((((((((((((((((((((((((((((((((((((((((((((((H.out.below ((Below.refl _ _).alloc (Nat.le_refl _) _)).below ((Below.refl _ _).alloc (Nat.le_refl _) _)).below hb1).below ((Below.refl _ _).alloc (Nat.le_refl _) _)).below hb2).below hb3).below hb4).below hb5).below hb6).below hb7).below hb8).below hb9).below hb10).below hb11).below hb12).below hb13).below hb14).below hb15).below hb16).below hb17).below hb18).below hb19).below hb20).below hb21).below hb22).below hb23).below hb24).below hb25).below hb26).below hb27).below hb28).below hb29).below hb30).below hb31).below hb32).below hb33).below hb34).below hb35).below hb36).below hb37).below hb38).below hb39).below hb40).below (below_drewN _ q41)).below hb42).below hb43).below hb44).below hb45).below hb46).below hb47).below hb48).below hb49).below ((Below.refl _ _).alloc (Nat.le_refl _) _)).below hb50).below hb51).below hb52).below hb53).below hbe).below ((Below.refl _ _).alloc (Nat.le_refl _) _)).below ((Below.refl _ _).alloc (Nat.le_refl _) _)).below hb56).mono (by omega)) ((((o_s.num (L := 4194304) (by omega)).below ((Below.refl _ _).alloc (Nat.le_refl _) _)).below ((Below.refl _ _).alloc (Nat.le_refl _) _)).below hb56) ((((((((((((((((((((((((((((((((((((((((((((((((((((((((((((((H'.out.below ((Below.refl _ _).alloc (Nat.le_refl _) _)).below ((Below.refl _ _).alloc (Nat.le_refl _) _)).below hb1).below ((Below.refl _ _).alloc (Nat.le_refl _) _)).below hb2).below hb3).below hb4).below hb5).below hb6).below hb7).below hb8).below hb9).below hb10).below hb11).below hb12).below hb13).below hb14).below hb15).below hb16).below hb17).below hb18).below hb19).below hb20).below hb21).below hb22).below hb23).below hb24).below hb25).below hb26).below hb27).below hb28).below hb29).below hb30).below hb31).below hb32).below hb33).below hb34).below hb35).below hb36).below hb37).below hb38).below hb39).below hb40).below (below_drewN _ q41)).below hb42).below hb43).below hb44).below hb45).below hb46).below hb47).below hb48).below hb49).below ((Below.refl _ _).alloc (Nat.le_refl _) _)).below hb50).below hb51).below hb52).below hb53).below hbe).below ((Below.refl _ _).alloc (Nat.le_refl _) _)).below ((Below.refl _ _).alloc (Nat.le_refl _) _)).below hb56).mono (by omega)) ((((o_k.num (L := 4194304) (by omega)).below ((Below.refl _ _).alloc (Nat.le_refl _) _)).below ((Below.refl _ _).alloc (Nat.le_refl _) _)).below hb56) (((((((((((((((((((((((((((((((((((((((((((((((((((((((o_r22.num l_r22).below hb6).below hb7).below hb8).below hb9).below hb10).below hb11).below hb12).below hb13).below hb14).below hb15).below hb16).below hb17).below hb18).below hb19).below hb20).below hb21).below hb22).below hb23).below hb24).below hb25).below hb26).below hb27).below hb28).below hb29).below hb30).below hb31).below hb32).below hb33).below hb34).below hb35).below hb36).below hb37).below hb38).below hb39).below hb40).below (below_drewN _ q41)).below hb42).below hb43).below hb44).below hb45).below hb46).below hb47).below hb48).below hb49).below ((Below.refl _ _).alloc (Nat.le_refl _) _)).below hb50).below hb51).below hb52).below hb53).below hbe).below ((Below.refl _ _).alloc (Nat.le_refl _) _)).below ((Below.refl _ _).alloc (Nat.le_refl _) _)).below hb56).mono (by omega)) HK.out (by omega)).mono ?_
    rintro e w57 ⟨rfl, hb57⟩
    go_wp2
    go_ret
    exact ⟨rfl, (bt (bt (bt (bt (bt (bt (bt (bt (bt (bt (bt (bt (bt (bt (bt (bt (bt (bt (bt (bt (bt (bt (bt (bt (bt (bt (bt (bt (bt (bt (bt (bt (bt (bt (bt (bt (bt (bt (bt (bt (bt (bt (bt (bt (bt (bt (bt (bt (bt (bt (bt (bt (bt (bt (bt (bt (bt (bt (bt (bt (bt ((Below.refl _ _).alloc (Nat.le_refl _) _) ((Below.refl _ _).alloc (Nat.le_refl _) _)) hb1) ((Below.refl _ _).alloc (Nat.le_refl _) _)) hb2) hb3) hb4) hb5) hb6) hb7) hb8) hb9) hb10) hb11) hb12) hb13) hb14) hb15) hb16) hb17) hb18) hb19) hb20) hb21) hb22) hb23) hb24) hb25) hb26) hb27) hb28) hb29) hb30) hb31) hb32) hb33) hb34) hb35) hb36) hb37) hb38) hb39) hb40) (below_drewN _ q41)) hb42) hb43) hb44) hb45) hb46) hb47) hb48) hb49) ((Below.refl _ _).alloc (Nat.le_refl _) _)) hb50) hb51) hb52) hb53) hbe) ((Below.refl _ _).alloc (Nat.le_refl _) _)) ((Below.refl _ _).alloc (Nat.le_refl _) _)) hb56) hb57)⟩
set_option maxHeartbeats 16000000 in
set_option maxRecDepth 100000 in
theorem surdGcds_zero {v u t : Value} {x y z L K M : Nat} {w : World} (h : Num w v x L) (h' : Num w u y K) (h'' : Num w t z M) (hg : Nat.gcd x y = 0) (hL : L ≤ 1048576) (hK : K ≤ 1048576) (hM : M ≤ 1048576) : Calls Try.prog 5 #[v, u, t] w (Keeps (.bool true) w) := by
  have EQ1 := Lib.hid gcd12
  have EQ2 : Hid (dg W ((Nat.gcd x y) * (Nat.lcm x y)) = dg W (x * y)) := by show _ = _; rw [Nat.gcd_mul_lcm]
  have EQ3 : Hid (dg W (Nat.gcd y x) = dg W (Nat.gcd x y)) := by show _ = _; rw [Nat.gcd_comm]
  have EQ4 : Hid (dg W (Nat.gcd (x * z) (y * z)) = dg W ((Nat.gcd x y) * z)) := by show _ = _; rw [Nat.gcd_mul_right]
  have EQ6 : Hid (dg W (Nat.gcd (Nat.gcd x y) z) = dg W (gall [z, x, y])) := by
    show _ = _
    congr 1
    simp only [gall, List.foldl_cons, List.foldl_nil, Nat.gcd_zero_left]
    rw [Nat.gcd_assoc z, Nat.gcd_comm z]
  have EX1 : Hid (x % Nat.gcd x y = 0) := Nat.mod_eq_zero_of_dvd (Nat.gcd_dvd_left x y)
  have EX2 : Hid (y % Nat.gcd x y = 0) := Nat.mod_eq_zero_of_dvd (Nat.gcd_dvd_right x y)
  have HG := Lib.hid hg
  have H := Lib.hid h
  have H' := Lib.hid h'
  have H'' := Lib.hid h''
  obtain ⟨_, _, _, _, rfl, _⟩ := id h
  obtain ⟨_, _, _, _, rfl, _⟩ := id h'
  obtain ⟨_, _, _, _, rfl, _⟩ := id h''
  clear h h' h'' hg
  go_enter Try.func5, Try.ntmps5
  go_wp2_with fail
  refine (gcd_any (((Num.lit (t := 26) _ [12] (by simp) (by simp [W_eq, All])).mono (L' := 1) (by simp)).below ((Below.refl _ _).alloc (Nat.le_refl _) _)) ((Num.lit (t := 26) _ [18] (by simp) (by simp [W_eq, All])).mono (L' := 1) (by simp)) (by omega) (by omega)).mono ?_
  rintro e w1 ⟨A_r14, n_r14, c_r14, rfl, o_r14, hb1, l_r14⟩
  go_wp2_with fail
  refine (sameT_yes (o_r14.rd.below ((Below.refl _ _).alloc (Nat.le_refl _) _)) (Rd.litn _ [6] (by simp) (by simp)) EQ1.out (by omega)).mono ?_
  rintro e w2 ⟨rfl, hb2⟩
  go_wp2_with fail
  refine (copyN_any (((((H.out.below ((Below.refl _ _).alloc (Nat.le_refl _) _)).below ((Below.refl _ _).alloc (Nat.le_refl _) _)).below hb1).below ((Below.refl _ _).alloc (Nat.le_refl _) _)).below hb2) (by omega)).mono ?_
  rintro e w3 ⟨A_r19, n_r19, c_r19, xs_r19, rfl, o_r19, a_r19, v_r19, hb3, l_r19⟩
  have V_r19 := Lib.hid v_r19
  clear v_r19
  go_wp2_with fail
  refine (copyN_any ((((((H'.out.below ((Below.refl _ _).alloc (Nat.le_refl _) _)).below ((Below.refl _ _).alloc (Nat.le_refl _) _)).below hb1).below ((Below.refl _ _).alloc (Nat.le_refl _) _)).below hb2).below hb3) (by omega)).mono ?_
  rintro e w4 ⟨A_r21, n_r21, c_r21, xs_r21, rfl, o_r21, a_r21, v_r21, hb4, l_r21⟩
  have V_r21 := Lib.hid v_r21
  clear v_r21
  go_wp2_with fail
  refine (gcd_any ((o_r19.numv a_r19 V_r19.out l_r19).below hb4) (o_r21.numv a_r21 V_r21.out l_r21) (by omega) (by omega)).mono ?_
  rintro e w5 ⟨A_r22, n_r22, c_r22, rfl, o_r22, hb5, l_r22⟩
  go_wp2_with fail
  refine (copyN_any ((((((((H.out.below ((Below.refl _ _).alloc (Nat.le_refl _) _)).below ((Below.refl _ _).alloc (Nat.le_refl _) _)).below hb1).below ((Below.refl _ _).alloc (Nat.le_refl _) _)).below hb2).below hb3).below hb4).below hb5) (by omega)).mono ?_
  rintro e w6 ⟨A_r24, n_r24, c_r24, xs_r24, rfl, o_r24, a_r24, v_r24, hb6, l_r24⟩
  have V_r24 := Lib.hid v_r24
  clear v_r24
  go_wp2_with fail
  refine (copyN_any (((((((((H'.out.below ((Below.refl _ _).alloc (Nat.le_refl _) _)).below ((Below.refl _ _).alloc (Nat.le_refl _) _)).below hb1).below ((Below.refl _ _).alloc (Nat.le_refl _) _)).below hb2).below hb3).below hb4).below hb5).below hb6) (by omega)).mono ?_
  rintro e w7 ⟨A_r26, n_r26, c_r26, xs_r26, rfl, o_r26, a_r26, v_r26, hb7, l_r26⟩
  have V_r26 := Lib.hid v_r26
  clear v_r26
  go_wp2_with fail
  refine (lcm_any ((o_r24.numv a_r24 V_r24.out l_r24).below hb7) (o_r26.numv a_r26 V_r26.out l_r26) (by omega) (by omega)).mono ?_
  rintro e w8 ⟨A_r27, n_r27, c_r27, rfl, o_r27, hb8, l_r27⟩
  go_wp2_with fail
  refine (copyN_any ((((o_r22.num l_r22).below hb6).below hb7).below hb8) (by omega)).mono ?_
  rintro e w9 ⟨A_r29, n_r29, c_r29, xs_r29, rfl, o_r29, a_r29, v_r29, hb9, l_r29⟩
  have V_r29 := Lib.hid v_r29
  clear v_r29
  go_wp2_with fail
  refine (copyN_any ((o_r27.num l_r27).below hb9) (by omega)).mono ?_
  rintro e w10 ⟨A_r31, n_r31, c_r31, xs_r31, rfl, o_r31, a_r31, v_r31, hb10, l_r31⟩
  have V_r31 := Lib.hid v_r31
  clear v_r31
  go_wp2_with fail
  refine (mul_any ((o_r29.numv a_r29 V_r29.out l_r29).below hb10) (o_r31.numv a_r31 V_r31.out l_r31) (by omega) (by omega)).mono ?_
  rintro e w11 ⟨A_r32, n_r32, c_r32, rfl, o_r32, hb11, l_r32⟩
  go_wp2_with fail
  refine (copyN_any ((((((((((((((H.out.below ((Below.refl _ _).alloc (Nat.le_refl _) _)).below ((Below.refl _ _).alloc (Nat.le_refl _) _)).below hb1).below ((Below.refl _ _).alloc (Nat.le_refl _) _)).below hb2).below hb3).below hb4).below hb5).below hb6).below hb7).below hb8).below hb9).below hb10).below hb11) (by omega)).mono ?_
  rintro e w12 ⟨A_r34, n_r34, c_r34, xs_r34, rfl, o_r34, a_r34, v_r34, hb12, l_r34⟩
  have V_r34 := Lib.hid v_r34
  clear v_r34
  go_wp2_with fail
  refine (copyN_any (((((((((((((((H'.out.below ((Below.refl _ _).alloc (Nat.le_refl _) _)).below ((Below.refl _ _).alloc (Nat.le_refl _) _)).below hb1).below ((Below.refl _ _).alloc (Nat.le_refl _) _)).below hb2).below hb3).below hb4).below hb5).below hb6).below hb7).below hb8).below hb9).below hb10).below hb11).below hb12) (by omega)).mono ?_
  rintro e w13 ⟨A_r36, n_r36, c_r36, xs_r36, rfl, o_r36, a_r36, v_r36, hb13, l_r36⟩
  have V_r36 := Lib.hid v_r36
  clear v_r36
  go_wp2_with fail
  refine (mul_any ((o_r34.numv a_r34 V_r34.out l_r34).below hb13) (o_r36.numv a_r36 V_r36.out l_r36) (by omega) (by omega)).mono ?_
  rintro e w14 ⟨A_r37, n_r37, c_r37, rfl, o_r37, hb14, l_r37⟩
  go_wp2_with fail
  refine (sameT_yes (((o_r32.rd.below hb12).below hb13).below hb14) o_r37.rd EQ2.out (by omega)).mono ?_
  rintro e w15 ⟨rfl, hb15⟩
  go_wp2_with fail
  refine (copyN_any ((((((((((((((((((H'.out.below ((Below.refl _ _).alloc (Nat.le_refl _) _)).below ((Below.refl _ _).alloc (Nat.le_refl _) _)).below hb1).below ((Below.refl _ _).alloc (Nat.le_refl _) _)).below hb2).below hb3).below hb4).below hb5).below hb6).below hb7).below hb8).below hb9).below hb10).below hb11).below hb12).below hb13).below hb14).below hb15) (by omega)).mono ?_
  rintro e w16 ⟨A_r42, n_r42, c_r42, xs_r42, rfl, o_r42, a_r42, v_r42, hb16, l_r42⟩
  have V_r42 := Lib.hid v_r42
  clear v_r42
  go_wp2_with fail
  refine (copyN_any (((((((((((((((((((H.out.below ((Below.refl _ _).alloc (Nat.le_refl _) _)).below ((Below.refl _ _).alloc (Nat.le_refl _) _)).below hb1).below ((Below.refl _ _).alloc (Nat.le_refl _) _)).below hb2).below hb3).below hb4).below hb5).below hb6).below hb7).below hb8).below hb9).below hb10).below hb11).below hb12).below hb13).below hb14).below hb15).below hb16) (by omega)).mono ?_
  rintro e w17 ⟨A_r44, n_r44, c_r44, xs_r44, rfl, o_r44, a_r44, v_r44, hb17, l_r44⟩
  have V_r44 := Lib.hid v_r44
  clear v_r44
  go_wp2_with fail
  refine (gcd_any ((o_r42.numv a_r42 V_r42.out l_r42).below hb17) (o_r44.numv a_r44 V_r44.out l_r44) (by omega) (by omega)).mono ?_
  rintro e w18 ⟨A_r45, n_r45, c_r45, rfl, o_r45, hb18, l_r45⟩
  go_wp2_with fail
  refine (sameT_yes o_r45.rd (((((((((((((o_r22.rd.below hb6).below hb7).below hb8).below hb9).below hb10).below hb11).below hb12).below hb13).below hb14).below hb15).below hb16).below hb17).below hb18) EQ3.out (by omega)).mono ?_
  rintro e w19 ⟨rfl, hb19⟩
  obtain rfl := len_zero o_r22 HG.out
  go_wp2_with fail
  refine (copyN_any ((((((((((((((((((((((H.out.below ((Below.refl _ _).alloc (Nat.le_refl _) _)).below ((Below.refl _ _).alloc (Nat.le_refl _) _)).below hb1).below ((Below.refl _ _).alloc (Nat.le_refl _) _)).below hb2).below hb3).below hb4).below hb5).below hb6).below hb7).below hb8).below hb9).below hb10).below hb11).below hb12).below hb13).below hb14).below hb15).below hb16).below hb17).below hb18).below hb19) (by omega)).mono ?_
  rintro e w20 ⟨A_r70, n_r70, c_r70, xs_r70, rfl, o_r70, a_r70, v_r70, hb20, l_r70⟩
  have V_r70 := Lib.hid v_r70
  clear v_r70
  go_wp2_with fail
  refine (copyN_any (((((((((((((((((((((((H''.out.below ((Below.refl _ _).alloc (Nat.le_refl _) _)).below ((Below.refl _ _).alloc (Nat.le_refl _) _)).below hb1).below ((Below.refl _ _).alloc (Nat.le_refl _) _)).below hb2).below hb3).below hb4).below hb5).below hb6).below hb7).below hb8).below hb9).below hb10).below hb11).below hb12).below hb13).below hb14).below hb15).below hb16).below hb17).below hb18).below hb19).below hb20) (by omega)).mono ?_
  rintro e w21 ⟨A_r72, n_r72, c_r72, xs_r72, rfl, o_r72, a_r72, v_r72, hb21, l_r72⟩
  have V_r72 := Lib.hid v_r72
  clear v_r72
  go_wp2_with fail
  refine (mul_any ((o_r70.numv a_r70 V_r70.out l_r70).below hb21) (o_r72.numv a_r72 V_r72.out l_r72) (by omega) (by omega)).mono ?_
  rintro e w22 ⟨A_r73, n_r73, c_r73, rfl, o_r73, hb22, l_r73⟩
  go_wp2_with fail
  refine (copyN_any (((((((((((((((((((((((((H'.out.below ((Below.refl _ _).alloc (Nat.le_refl _) _)).below ((Below.refl _ _).alloc (Nat.le_refl _) _)).below hb1).below ((Below.refl _ _).alloc (Nat.le_refl _) _)).below hb2).below hb3).below hb4).below hb5).below hb6).below hb7).below hb8).below hb9).below hb10).below hb11).below hb12).below hb13).below hb14).below hb15).below hb16).below hb17).below hb18).below hb19).below hb20).below hb21).below hb22) (by omega)).mono ?_
  rintro e w23 ⟨A_r75, n_r75, c_r75, xs_r75, rfl, o_r75, a_r75, v_r75, hb23, l_r75⟩
  have V_r75 := Lib.hid v_r75
  clear v_r75
  go_wp2_with fail
  refine (copyN_any ((((((((((((((((((((((((((H''.out.below ((Below.refl _ _).alloc (Nat.le_refl _) _)).below ((Below.refl _ _).alloc (Nat.le_refl _) _)).below hb1).below ((Below.refl _ _).alloc (Nat.le_refl _) _)).below hb2).below hb3).below hb4).below hb5).below hb6).below hb7).below hb8).below hb9).below hb10).below hb11).below hb12).below hb13).below hb14).below hb15).below hb16).below hb17).below hb18).below hb19).below hb20).below hb21).below hb22).below hb23) (by omega)).mono ?_
  rintro e w24 ⟨A_r77, n_r77, c_r77, xs_r77, rfl, o_r77, a_r77, v_r77, hb24, l_r77⟩
  have V_r77 := Lib.hid v_r77
  clear v_r77
  go_wp2_with fail
  refine (mul_any ((o_r75.numv a_r75 V_r75.out l_r75).below hb24) (o_r77.numv a_r77 V_r77.out l_r77) (by omega) (by omega)).mono ?_
  rintro e w25 ⟨A_r78, n_r78, c_r78, rfl, o_r78, hb25, l_r78⟩
  go_wp2_with fail
  refine (gcd_any ((((o_r73.num l_r73).below hb23).below hb24).below hb25) (o_r78.num l_r78) (by omega) (by omega)).mono ?_
  rintro e w26 ⟨A_r79, n_r79, c_r79, rfl, o_r79, hb26, l_r79⟩
  go_wp2_with fail
  refine (copyN_any ((((((((((((((((((((((o_r22.num l_r22).below hb6).below hb7).below hb8).below hb9).below hb10).below hb11).below hb12).below hb13).below hb14).below hb15).below hb16).below hb17).below hb18).below hb19).below hb20).below hb21).below hb22).below hb23).below hb24).below hb25).below hb26) (by omega)).mono ?_
  rintro e w27 ⟨A_r81, n_r81, c_r81, xs_r81, rfl, o_r81, a_r81, v_r81, hb27, l_r81⟩
  have V_r81 := Lib.hid v_r81
  clear v_r81
  go_wp2_with fail
  refine (copyN_any ((((((((((((((((((((((((((((((H''.out.below ((Below.refl _ _).alloc (Nat.le_refl _) _)).below ((Below.refl _ _).alloc (Nat.le_refl _) _)).below hb1).below ((Below.refl _ _).alloc (Nat.le_refl _) _)).below hb2).below hb3).below hb4).below hb5).below hb6).below hb7).below hb8).below hb9).below hb10).below hb11).below hb12).below hb13).below hb14).below hb15).below hb16).below hb17).below hb18).below hb19).below hb20).below hb21).below hb22).below hb23).below hb24).below hb25).below hb26).below hb27) (by omega)).mono ?_
  rintro e w28 ⟨A_r83, n_r83, c_r83, xs_r83, rfl, o_r83, a_r83, v_r83, hb28, l_r83⟩
  have V_r83 := Lib.hid v_r83
  clear v_r83
  go_wp2_with fail
  refine (mul_any ((o_r81.numv a_r81 V_r81.out l_r81).below hb28) (o_r83.numv a_r83 V_r83.out l_r83) (by omega) (by omega)).mono ?_
  rintro e w29 ⟨A_r84, n_r84, c_r84, rfl, o_r84, hb29, l_r84⟩
  go_wp2_with fail
  refine (sameT_yes (((o_r79.rd.below hb27).below hb28).below hb29) o_r84.rd EQ4.out (by omega)).mono ?_
  rintro e w30 ⟨rfl, hb30⟩
  go_wp2_with fail
  refine (copyN_any (((((((((((((((((((((((((((((((((H.out.below ((Below.refl _ _).alloc (Nat.le_refl _) _)).below ((Below.refl _ _).alloc (Nat.le_refl _) _)).below hb1).below ((Below.refl _ _).alloc (Nat.le_refl _) _)).below hb2).below hb3).below hb4).below hb5).below hb6).below hb7).below hb8).below hb9).below hb10).below hb11).below hb12).below hb13).below hb14).below hb15).below hb16).below hb17).below hb18).below hb19).below hb20).below hb21).below hb22).below hb23).below hb24).below hb25).below hb26).below hb27).below hb28).below hb29).below hb30) (by omega)).mono ?_
  rintro e w31 ⟨A_r88, n_r88, c_r88, xs_r88, rfl, o_r88, a_r88, v_r88, hb31, l_r88⟩
  have V_r88 := Lib.hid v_r88
  clear v_r88
  go_wp2_with fail
  refine (copyN_any ((((((((((((((((((((((((((((((((((H'.out.below ((Below.refl _ _).alloc (Nat.le_refl _) _)).below ((Below.refl _ _).alloc (Nat.le_refl _) _)).below hb1).below ((Below.refl _ _).alloc (Nat.le_refl _) _)).below hb2).below hb3).below hb4).below hb5).below hb6).below hb7).below hb8).below hb9).below hb10).below hb11).below hb12).below hb13).below hb14).below hb15).below hb16).below hb17).below hb18).below hb19).below hb20).below hb21).below hb22).below hb23).below hb24).below hb25).below hb26).below hb27).below hb28).below hb29).below hb30).below hb31) (by omega)).mono ?_
  rintro e w32 ⟨A_r90, n_r90, c_r90, xs_r90, rfl, o_r90, a_r90, v_r90, hb32, l_r90⟩
  have V_r90 := Lib.hid v_r90
  clear v_r90
  go_wp2_with fail
  refine (coprime_any ((o_r88.numv a_r88 V_r88.out l_r88).below hb32) (o_r90.numv a_r90 V_r90.out l_r90) (by omega) (by omega)).mono ?_
  rintro e w33 ⟨rfl, hb33⟩
  go_wp2_with fail
  refine (oneT_any).mono ?_
  rintro e w34 ⟨A_r93, n_r93, c_r93, xs_r93, rfl, o_r93, a_r93, v_r93, hb34, l_r93⟩
  have V_r93 := Lib.hid v_r93
  clear v_r93
  have E93 := one_word a_r93 V_r93.out (by rw [o_r93.len]; exact l_r93)
  go_wp2_with fail
  have C93 := Lib.hid (sameT_any (w := w34) (((((((((((((((((((((((((((((o_r22.rd.below hb6).below hb7).below hb8).below hb9).below hb10).below hb11).below hb12).below hb13).below hb14).below hb15).below hb16).below hb17).below hb18).below hb19).below hb20).below hb21).below hb22).below hb23).below hb24).below hb25).below hb26).below hb27).below hb28).below hb29).below hb30).below hb31).below hb32).below hb33).below hb34) o_r93.rd (by omega))
  have D93 : decide (dg W (Nat.gcd x y) = xs_r93) = decide (Nat.gcd x y = 1) := by rw [E93]; simp only [dg_inj]
  rw [D93] at C93
  generalize decide (Nat.gcd x y = 1) = bb at *
  clear D93 E93
  go_wp2_with fail
  refine (C93.out).mono ?_
  rintro e w35 ⟨rfl, q35, rfl⟩
  go_wp2_with fail
  refine (copyN_any ((((((((((((((((((((((((((((((((((((((H.out.below ((Below.refl _ _).alloc (Nat.le_refl _) _)).below ((Below.refl _ _).alloc (Nat.le_refl _) _)).below hb1).below ((Below.refl _ _).alloc (Nat.le_refl _) _)).below hb2).below hb3).below hb4).below hb5).below hb6).below hb7).below hb8).below hb9).below hb10).below hb11).below hb12).below hb13).below hb14).below hb15).below hb16).below hb17).below hb18).below hb19).below hb20).below hb21).below hb22).below hb23).below hb24).below hb25).below hb26).below hb27).below hb28).below hb29).below hb30).below hb31).below hb32).below hb33).below hb34).below (below_drewN _ q35)) (by omega)).mono ?_
  rintro e w36 ⟨A_r98, n_r98, c_r98, xs_r98, rfl, o_r98, a_r98, v_r98, hb36, l_r98⟩
  have V_r98 := Lib.hid v_r98
  clear v_r98
  go_wp2_with fail
  refine (copyN_any (((((((((((((((((((((((((((((((((((((((H'.out.below ((Below.refl _ _).alloc (Nat.le_refl _) _)).below ((Below.refl _ _).alloc (Nat.le_refl _) _)).below hb1).below ((Below.refl _ _).alloc (Nat.le_refl _) _)).below hb2).below hb3).below hb4).below hb5).below hb6).below hb7).below hb8).below hb9).below hb10).below hb11).below hb12).below hb13).below hb14).below hb15).below hb16).below hb17).below hb18).below hb19).below hb20).below hb21).below hb22).below hb23).below hb24).below hb25).below hb26).below hb27).below hb28).below hb29).below hb30).below hb31).below hb32).below hb33).below hb34).below (below_drewN _ q35)).below hb36) (by omega)).mono ?_
  rintro e w37 ⟨A_r100, n_r100, c_r100, xs_r100, rfl, o_r100, a_r100, v_r100, hb37, l_r100⟩
  have V_r100 := Lib.hid v_r100
  clear v_r100
  go_wp2_with fail
  refine (gcd_any ((o_r98.numv a_r98 V_r98.out l_r98).below hb37) (o_r100.numv a_r100 V_r100.out l_r100) (by omega) (by omega)).mono ?_
  rintro e w38 ⟨A_r101, n_r101, c_r101, rfl, o_r101, hb38, l_r101⟩
  go_wp2_with fail
  refine (copyN_any (((((((((((((((((((((((((((((((((((((((((H''.out.below ((Below.refl _ _).alloc (Nat.le_refl _) _)).below ((Below.refl _ _).alloc (Nat.le_refl _) _)).below hb1).below ((Below.refl _ _).alloc (Nat.le_refl _) _)).below hb2).below hb3).below hb4).below hb5).below hb6).below hb7).below hb8).below hb9).below hb10).below hb11).below hb12).below hb13).below hb14).below hb15).below hb16).below hb17).below hb18).below hb19).below hb20).below hb21).below hb22).below hb23).below hb24).below hb25).below hb26).below hb27).below hb28).below hb29).below hb30).below hb31).below hb32).below hb33).below hb34).below (below_drewN _ q35)).below hb36).below hb37).below hb38) (by omega)).mono ?_
  rintro e w39 ⟨A_r103, n_r103, c_r103, xs_r103, rfl, o_r103, a_r103, v_r103, hb39, l_r103⟩
  have V_r103 := Lib.hid v_r103
  clear v_r103
  go_wp2_with fail
  refine (gcd_any ((o_r101.num l_r101).below hb39) (o_r103.numv a_r103 V_r103.out l_r103) (by omega) (by omega)).mono ?_
  rintro e w40 ⟨A_r104, n_r104, c_r104, rfl, o_r104, hb40, l_r104⟩
  go_wp2_with fail
  refine (copyN_any (((((((((((((((((((((((((((((((((((((((((((H''.out.below ((Below.refl _ _).alloc (Nat.le_refl _) _)).below ((Below.refl _ _).alloc (Nat.le_refl _) _)).below hb1).below ((Below.refl _ _).alloc (Nat.le_refl _) _)).below hb2).below hb3).below hb4).below hb5).below hb6).below hb7).below hb8).below hb9).below hb10).below hb11).below hb12).below hb13).below hb14).below hb15).below hb16).below hb17).below hb18).below hb19).below hb20).below hb21).below hb22).below hb23).below hb24).below hb25).below hb26).below hb27).below hb28).below hb29).below hb30).below hb31).below hb32).below hb33).below hb34).below (below_drewN _ q35)).below hb36).below hb37).below hb38).below hb39).below hb40) (by omega)).mono ?_
  rintro e w41 ⟨A_r106, n_r106, c_r106, xs_r106, rfl, o_r106, a_r106, v_r106, hb41, l_r106⟩
  have V_r106 := Lib.hid v_r106
  clear v_r106
  go_wp2_with fail
  refine (copyN_any ((((((((((((((((((((((((((((((((((((((((((((H.out.below ((Below.refl _ _).alloc (Nat.le_refl _) _)).below ((Below.refl _ _).alloc (Nat.le_refl _) _)).below hb1).below ((Below.refl _ _).alloc (Nat.le_refl _) _)).below hb2).below hb3).below hb4).below hb5).below hb6).below hb7).below hb8).below hb9).below hb10).below hb11).below hb12).below hb13).below hb14).below hb15).below hb16).below hb17).below hb18).below hb19).below hb20).below hb21).below hb22).below hb23).below hb24).below hb25).below hb26).below hb27).below hb28).below hb29).below hb30).below hb31).below hb32).below hb33).below hb34).below (below_drewN _ q35)).below hb36).below hb37).below hb38).below hb39).below hb40).below hb41) (by omega)).mono ?_
  rintro e w42 ⟨A_r108, n_r108, c_r108, xs_r108, rfl, o_r108, a_r108, v_r108, hb42, l_r108⟩
  have V_r108 := Lib.hid v_r108
  clear v_r108
  go_wp2_with fail
  refine (copyN_any (((((((((((((((((((((((((((((((((((((((((((((H'.out.below ((Below.refl _ _).alloc (Nat.le_refl _) _)).below ((Below.refl _ _).alloc (Nat.le_refl _) _)).below hb1).below ((Below.refl _ _).alloc (Nat.le_refl _) _)).below hb2).below hb3).below hb4).below hb5).below hb6).below hb7).below hb8).below hb9).below hb10).below hb11).below hb12).below hb13).below hb14).below hb15).below hb16).below hb17).below hb18).below hb19).below hb20).below hb21).below hb22).below hb23).below hb24).below hb25).below hb26).below hb27).below hb28).below hb29).below hb30).below hb31).below hb32).below hb33).below hb34).below (below_drewN _ q35)).below hb36).below hb37).below hb38).below hb39).below hb40).below hb41).below hb42) (by omega)).mono ?_
  rintro e w43 ⟨A_r110, n_r110, c_r110, xs_r110, rfl, o_r110, a_r110, v_r110, hb43, l_r110⟩
  have V_r110 := Lib.hid v_r110
  clear v_r110
  go_wp2_with fail
  have nl0 := Nums.lit3 (t := 23) (b := w43.heap.size) rfl (((o_r106.numv a_r106 V_r106.out l_r106).below hb42).below hb43) ((o_r108.numv a_r108 V_r108.out l_r108).below hb43) (o_r110.numv a_r110 V_r110.out l_r110)
  go_wp2_with fail
  refine (all_any nl0 (by omega) (by simp [lsum]; omega)).mono ?_
  rintro e w44 ⟨A_r112, n_r112, c_r112, rfl, o_r112, hb44, l_r112⟩
  go_wp2_with fail
  refine (sameT_yes (((((o_r104.rd.below hb41).below hb42).below hb43).below ((Below.refl _ _).alloc (Nat.le_refl _) _)).below hb44) o_r112.rd EQ6.out (by omega)).mono ?_
  rintro e w45 ⟨rfl, hb45⟩
  go_wp2_with fail
  refine (copyN_any (((((((((((((((((((((((((((((((((((((((((((((((((H.out.below ((Below.refl _ _).alloc (Nat.le_refl _) _)).below ((Below.refl _ _).alloc (Nat.le_refl _) _)).below hb1).below ((Below.refl _ _).alloc (Nat.le_refl _) _)).below hb2).below hb3).below hb4).below hb5).below hb6).below hb7).below hb8).below hb9).below hb10).below hb11).below hb12).below hb13).below hb14).below hb15).below hb16).below hb17).below hb18).below hb19).below hb20).below hb21).below hb22).below hb23).below hb24).below hb25).below hb26).below hb27).below hb28).below hb29).below hb30).below hb31).below hb32).below hb33).below hb34).below (below_drewN _ q35)).below hb36).below hb37).below hb38).below hb39).below hb40).below hb41).below hb42).below hb43).below ((Below.refl _ _).alloc (Nat.le_refl _) _)).below hb44).below hb45) (by omega)).mono ?_
  rintro e w46 ⟨A_r118, n_r118, c_r118, xs_r118, rfl, o_r118, a_r118, v_r118, hb46, l_r118⟩
  have V_r118 := Lib.hid v_r118
  clear v_r118
  go_wp2_with fail
  refine (copyN_any ((((((((((((((((((((((((((((((((((((((((((((((((((H'.out.below ((Below.refl _ _).alloc (Nat.le_refl _) _)).below ((Below.refl _ _).alloc (Nat.le_refl _) _)).below hb1).below ((Below.refl _ _).alloc (Nat.le_refl _) _)).below hb2).below hb3).below hb4).below hb5).below hb6).below hb7).below hb8).below hb9).below hb10).below hb11).below hb12).below hb13).below hb14).below hb15).below hb16).below hb17).below hb18).below hb19).below hb20).below hb21).below hb22).below hb23).below hb24).below hb25).below hb26).below hb27).below hb28).below hb29).below hb30).below hb31).below hb32).below hb33).below hb34).below (below_drewN _ q35)).below hb36).below hb37).below hb38).below hb39).below hb40).below hb41).below hb42).below hb43).below ((Below.refl _ _).alloc (Nat.le_refl _) _)).below hb44).below hb45).below hb46) (by omega)).mono ?_
  rintro e w47 ⟨A_r120, n_r120, c_r120, xs_r120, rfl, o_r120, a_r120, v_r120, hb47, l_r120⟩
  have V_r120 := Lib.hid v_r120
  clear v_r120
  go_wp2_with fail
  refine (extended_any ((o_r118.numv a_r118 V_r118.out l_r118).below hb47) (o_r120.numv a_r120 V_r120.out l_r120) (by omega) (by omega)).mono ?_
  rintro e we ⟨s, k, neg, A_h, n_h, c_h, A_s, n_s, c_s, A_k, n_k, c_k, hok, rfl, ⟨o_h, o_s, o_k⟩, hbe, l_h, l_s, l_k⟩
  have HOK := Lib.hid hok.1
  clear hok
  rcases HOK.out with ⟨hn, hk0, hk⟩ | ⟨hn, hk⟩
  · subst hn
    have HK := Lib.hid hk
    clear hk hk0
    go_wp2_with fail
    go_wp2_with fail
    refine (sameT_yes ((o_h.rd.below ((Below.refl _ _).alloc (Nat.le_refl _) _)).below ((Below.refl _ _).alloc (Nat.le_refl _) _)) ((((((((((((((((((((((((((((((((((((((((((((((o_r22.rd.below hb6).below hb7).below hb8).below hb9).below hb10).below hb11).below hb12).below hb13).below hb14).below hb15).below hb16).below hb17).below hb18).below hb19).below hb20).below hb21).below hb22).below hb23).below hb24).below hb25).below hb26).below hb27).below hb28).below hb29).below hb30).below hb31).below hb32).below hb33).below hb34).below (below_drewN _ q35)).below hb36).below hb37).below hb38).below hb39).below hb40).below hb41).below hb42).below hb43).below ((Below.refl _ _).alloc (Nat.le_refl _) _)).below hb44).below hb45).below hb46).below hb47).below hbe).below ((Below.refl _ _).alloc (Nat.le_refl _) _)).below ((Below.refl _ _).alloc (Nat.le_refl _) _)) rfl (by omega)).mono ?_
    rintro e w48 ⟨rfl, hb48⟩
    have e0 := (((At.boxb (i := 0) (t := 50) we #[.bool false, .slice A_s n_s c_s] rfl rfl).below ((Below.refl _ _).alloc (Nat.le_refl _) _)).below hb48).1
    have e1 := (((At.boxb (i := 1) (t := 50) we #[.bool false, .slice A_s n_s c_s] rfl rfl).below ((Below.refl _ _).alloc (Nat.le_refl _) _)).below hb48).1
    have e2 := ((At.boxb (i := 0) (t := 50) (b := we.heap.size + 1) _ #[.bool true, .slice A_k n_k c_k] rfl (by simp)).below hb48).1
    have e3 := ((At.boxb (i := 1) (t := 50) (b := we.heap.size + 1) _ #[.bool true, .slice A_k n_k c_k] rfl (by simp)).below hb48).1
    go_wp2_with fail
    refine (bezout_neg ((((((((((((((((((((((((((((((((((((((((((((((((((((((((H.out.below ((Below.refl _ _).alloc (Nat.le_refl _) _)).below ((Below.refl _ _).alloc (Nat.le_refl _) _)).below hb1).below ((Below.refl _ _).alloc (Nat.le_refl _) _)).below hb2).below hb3).below hb4).below hb5).below hb6).below hb7).below hb8).below hb9).below hb10).below hb11).below hb12).below hb13).below hb14).below hb15).below hb16).below hb17).below hb18).below hb19).below hb20).below hb21).below hb22).below hb23).below hb24).below hb25).below hb26).below hb27).below hb28).below hb29).below hb30).below hb31).below hb32).below hb33).below hb34).below (below_drewN _ q35)).below hb36).below hb37).below hb38).below hb39).below hb40).below hb41).below hb42).below hb43).below ((Below.refl _ _).alloc (Nat.le_refl _) _)).below hb44).below hb45).below hb46).below hb47).below hbe).below ((Below.refl _ _).alloc (Nat.le_refl _) _)).below ((Below.refl _ _).alloc (Nat.le_refl _) _)).below hb48).mono (by omega)) ((((o_s.num (L := 4194304) (by omega)).below ((Below.refl _ _).alloc (Nat.le_refl _) _)).below ((Below.refl _ _).alloc (Nat.le_refl _) _)).below hb48) ((((((((((((((((((((((((((((((((((((((((((((((((((((((((H'.out.below ((Below.refl _ _).alloc (Nat.le_refl _) _)).below ((Below.refl _ _).alloc (Nat.le_refl _) _)).below hb1).below ((Below.refl _ _).alloc (Nat.le_refl _) _)).below hb2).below hb3).below hb4).below hb5).below hb6).below hb7).below hb8).below hb9).below hb10).below hb11).below hb12).below hb13).below hb14).below hb15).below hb16).below hb17).below hb18).below hb19).below hb20).below hb21).below hb22).below hb23).below hb24).below hb25).below hb26).below hb27).below hb28).below hb29).below hb30).below hb31).below hb32).below hb33).below hb34).below (below_drewN _ q35)).below hb36).below hb37).below hb38).below hb39).below hb40).below hb41).below hb42).below hb43).below ((Below.refl _ _).alloc (Nat.le_refl _) _)).below hb44).below hb45).below hb46).below hb47).below hbe).below ((Below.refl _ _).alloc (Nat.le_refl _) _)).below ((Below.refl _ _).alloc (Nat.le_refl _) _)).below hb48).mono (by omega)) ((((o_k.num (L := 4194304) (by omega)).below ((Below.refl _ _).alloc (Nat.le_refl _) _)).below ((Below.refl _ _).alloc (Nat.le_refl _) _)).below hb48) (((((((((((((((((((((((((((((((((((((((((((((((((o_r22.num l_r22).below hb6).below hb7).below hb8).below hb9).below hb10).below hb11).below hb12).below hb13).below hb14).below hb15).below hb16).below hb17).below hb18).below hb19).below hb20).below hb21).below hb22).below hb23).below hb24).below hb25).below hb26).below hb27).below hb28).below hb29).below hb30).below hb31).below hb32).below hb33).below hb34).below (below_drewN _ q35)).below hb36).below hb37).below hb38).below hb39).below hb40).below hb41).below hb42).below hb43).below ((Below.refl _ _).alloc (Nat.le_refl _) _)).below hb44).below hb45).below hb46).below hb47).below hbe).below ((Below.refl _ _).alloc (Nat.le_refl _) _)).below ((Below.refl _ _).alloc (Nat.le_refl _) _)).below hb48).mono (by omega)) HK.out (by omega)).mono ?_
    rintro e w49 ⟨rfl, hb49⟩
    go_wp2
    go_ret
    exact ⟨rfl, (bt (bt (bt (bt (bt (bt (bt (bt (bt (bt (bt (bt (bt (bt (bt (bt (bt (bt (bt (bt (bt (bt (bt (bt (bt (bt (bt (bt (bt (bt (bt (bt (bt (bt (bt (bt (bt (bt (bt (bt (bt (bt (bt (bt (bt (bt (bt (bt (bt (bt (bt (bt (bt (bt (bt ((Below.refl _ _).alloc (Nat.le_refl _) _) ((Below.refl _ _).alloc (Nat.le_refl _) _)) hb1) ((Below.refl _ _).alloc (Nat.le_refl _) _)) hb2) hb3) hb4) hb5) hb6) hb7) hb8) hb9) hb10) hb11) hb12) hb13) hb14) hb15) hb16) hb17) hb18) hb19) hb20) hb21) hb22) hb23) hb24) hb25) hb26) hb27) hb28) hb29) hb30) hb31) hb32) hb33) hb34) (below_drewN _ q35)) hb36) hb37) hb38) hb39) hb40) hb41) hb42) hb43) ((Below.refl _ _).alloc (Nat.le_refl _) _)) hb44) hb45) hb46) hb47) hbe) ((Below.refl _ _).alloc (Nat.le_refl _) _)) ((Below.refl _ _).alloc (Nat.le_refl _) _)) hb48) hb49)⟩
  · subst hn
    have HK := Lib.hid hk
    clear hk
    go_wp2_with fail
    go_wp2_with fail
    refine (sameT_yes ((o_h.rd.below ((Below.refl _ _).alloc (Nat.le_refl _) _)).below ((Below.refl _ _).alloc (Nat.le_refl _) _)) ((((((((((((((((((((((((((((((((((((((((((((((o_r22.rd.below hb6).below hb7).below hb8).below hb9).below hb10).below hb11).below hb12).below hb13).below hb14).below hb15).below hb16).below hb17).below hb18).below hb19).below hb20).below hb21).below hb22).below hb23).below hb24).below hb25).below hb26).below hb27).below hb28).below hb29).below hb30).below hb31).below hb32).below hb33).below hb34).below (below_drewN _ q35)).below hb36).below hb37).below hb38).below hb39).below hb40).below hb41).below hb42).below hb43).below ((Below.refl _ _).alloc (Nat.le_refl _) _)).below hb44).below hb45).below hb46).below hb47).below hbe).below ((Below.refl _ _).alloc (Nat.le_refl _) _)).below ((Below.refl _ _).alloc (Nat.le_refl _) _)) rfl (by omega)).mono ?_
    rintro e w50 ⟨rfl, hb50⟩
    have e0 := (((At.boxb (i := 0) (t := 50) we #[.bool false, .slice A_s n_s c_s] rfl rfl).below ((Below.refl _ _).alloc (Nat.le_refl _) _)).below hb50).1
    have e1 := (((At.boxb (i := 1) (t := 50) we #[.bool false, .slice A_s n_s c_s] rfl rfl).below ((Below.refl _ _).alloc (Nat.le_refl _) _)).below hb50).1
    have e2 := ((At.boxb (i := 0) (t := 50) (b := we.heap.size + 1) _ #[.bool false, .slice A_k n_k c_k] rfl (by simp)).below hb50).1
    have e3 := ((At.boxb (i := 1) (t := 50) (b := we.heap.size + 1) _ #[.bool false, .slice A_k n_k c_k] rfl (by simp)).below hb50).1
    go_wp2_with fail
    refine (bezout_pos ((((((((((((((((((((((((((((((((((((((((((((((((((((((((H.out.below ((Below.refl _ _).alloc (Nat.le_refl _) _)).below ((Below.refl _ _).alloc (Nat.le_refl _) _)).below hb1).below ((Below.refl _ _).alloc (Nat.le_refl _) _)).below hb2).below hb3).below hb4).below hb5).below hb6).below hb7).below hb8).below hb9).below hb10).below hb11).below hb12).below hb13).below hb14).below hb15).below hb16).below hb17).below hb18).below hb19).below hb20).below hb21).below hb22).below hb23).below hb24).below hb25).below hb26).below hb27).below hb28).below hb29).below hb30).below hb31).below hb32).below hb33).below hb34).below (below_drewN _ q35)).below hb36).below hb37).below hb38).below hb39).below hb40).below hb41).below hb42).below hb43).below ((Below.refl _ _).alloc (Nat.le_refl _) _)).below hb44).below hb45).below hb46).below hb47).below hbe).below ((Below.refl _ _).alloc (Nat.le_refl _) _)).below ((Below.refl _ _).alloc (Nat.le_refl _) _)).below hb50).mono (by omega)) ((((o_s.num (L := 4194304) (by omega)).below ((Below.refl _ _).alloc (Nat.le_refl _) _)).below ((Below.refl _ _).alloc (Nat.le_refl _) _)).below hb50) ((((((((((((((((((((((((((((((((((((((((((((((((((((((((H'.out.below ((Below.refl _ _).alloc (Nat.le_refl _) _)).below ((Below.refl _ _).alloc (Nat.le_refl _) _)).below hb1).below ((Below.refl _ _).alloc (Nat.le_refl _) _)).below hb2).below hb3).below hb4).below hb5).below hb6).below hb7).below hb8).below hb9).below hb10).below hb11).below hb12).below hb13).below hb14).below hb15).below hb16).below hb17).below hb18).below hb19).below hb20).below hb21).below hb22).below hb23).below hb24).below hb25).below hb26).below hb27).below hb28).below hb29).below hb30).below hb31).below hb32).below hb33).below hb34).below (below_drewN _ q35)).below hb36).below hb37).below hb38).below hb39).below hb40).below hb41).below hb42).below hb43).below ((Below.refl _ _).alloc (Nat.le_refl _) _)).below hb44).below hb45).below hb46).below hb47).below hbe).below ((Below.refl _ _).alloc (Nat.le_refl _) _)).below ((Below.refl _ _).alloc (Nat.le_refl _) _)).below hb50).mono (by omega)) ((((o_k.num (L := 4194304) (by omega)).below ((Below.refl _ _).alloc (Nat.le_refl _) _)).below ((Below.refl _ _).alloc (Nat.le_refl _) _)).below hb50) (((((((((((((((((((((((((((((((((((((((((((((((((o_r22.num l_r22).below hb6).below hb7).below hb8).below hb9).below hb10).below hb11).below hb12).below hb13).below hb14).below hb15).below hb16).below hb17).below hb18).below hb19).below hb20).below hb21).below hb22).below hb23).below hb24).below hb25).below hb26).below hb27).below hb28).below hb29).below hb30).below hb31).below hb32).below hb33).below hb34).below (below_drewN _ q35)).below hb36).below hb37).below hb38).below hb39).below hb40).below hb41).below hb42).below hb43).below ((Below.refl _ _).alloc (Nat.le_refl _) _)).below hb44).below hb45).below hb46).below hb47).below hbe).below ((Below.refl _ _).alloc (Nat.le_refl _) _)).below ((Below.refl _ _).alloc (Nat.le_refl _) _)).below hb50).mono (by omega)) HK.out (by omega)).mono ?_
    rintro e w51 ⟨rfl, hb51⟩
    go_wp2
    go_ret
    exact ⟨rfl, (bt (bt (bt (bt (bt (bt (bt (bt (bt (bt (bt (bt (bt (bt (bt (bt (bt (bt (bt (bt (bt (bt (bt (bt (bt (bt (bt (bt (bt (bt (bt (bt (bt (bt (bt (bt (bt (bt (bt (bt (bt (bt (bt (bt (bt (bt (bt (bt (bt (bt (bt (bt (bt (bt (bt ((Below.refl _ _).alloc (Nat.le_refl _) _) ((Below.refl _ _).alloc (Nat.le_refl _) _)) hb1) ((Below.refl _ _).alloc (Nat.le_refl _) _)) hb2) hb3) hb4) hb5) hb6) hb7) hb8) hb9) hb10) hb11) hb12) hb13) hb14) hb15) hb16) hb17) hb18) hb19) hb20) hb21) hb22) hb23) hb24) hb25) hb26) hb27) hb28) hb29) hb30) hb31) hb32) hb33) hb34) (below_drewN _ q35)) hb36) hb37) hb38) hb39) hb40) hb41) hb42) hb43) ((Below.refl _ _).alloc (Nat.le_refl _) _)) hb44) hb45) hb46) hb47) hbe) ((Below.refl _ _).alloc (Nat.le_refl _) _)) ((Below.refl _ _).alloc (Nat.le_refl _) _)) hb50) hb51)⟩
theorem surdGcds_any {v u t : Value} {x y z L K M : Nat} {w : World} (h : Num w v x L) (h' : Num w u y K) (h'' : Num w t z M) (hL : L ≤ 1048576) (hK : K ≤ 1048576) (hM : M ≤ 1048576) : Calls Try.prog 5 #[v, u, t] w (Keeps (.bool true) w) := by
  rcases Nat.eq_zero_or_pos (Nat.gcd x y) with h0 | h0
  · exact surdGcds_zero h h' h'' h0 hL hK hM
  · exact surdGcds_pos h h' h'' h0 hL hK hM
end Go.Proofs.Ytnmfmdilhepmjaa
