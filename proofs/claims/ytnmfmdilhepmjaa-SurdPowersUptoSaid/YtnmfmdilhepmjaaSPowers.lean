/-
  SurdPowers.
-/
import Derived.Test.YtnmfmdilhepmjaaDigP
import Derived.Test.YtnmfmdilhepmjaaUndig
import Derived.Test.YtnmfmdilhepmjaaTopA
import Derived.Test.YtnmfmdilhepmjaaPow
namespace Go.Proofs.Ytnmfmdilhepmjaa
open Go.RowKit
set_option linter.unusedVariables false

theorem two64S : dg W (val W [2] ^ 64) = [0, 1] := by
  have := norm_dg (b := W) (xs := [0, 1]) W_gt (by simp [All, W_eq]) (by simp [Norm, strip])
  rw [this]
  simp [val, W_eq]
theorem clampI_nat (z : Int) : ∃ M : Nat, clampI z 0 12 = (M : Int) ∧ M ≤ 12 := by
  refine ⟨(clampI z 0 12).toNat, ?_, ?_⟩ <;> · unfold clampI; split <;> (try split) <;> omega
set_option maxHeartbeats 8000000 in
set_option maxRecDepth 100000 in
theorem surdPowers_1 {A : Option Addr} {n c x y K : Nat} {xs : List Nat} {u : Value} {z1 z2 : Int} {w : World} (hr : Rd .u64 w A n c xs) (ha : All W xs) (hx : val W xs = x) (h' : Num w u y K) (hn : n ≤ 40) (hn2 : n ≤ 1048576) (hK : K ≤ 1048576) (hy0 : 0 < y) :
    Calls Try.prog 4 #[.slice A n c, u, .agg #[.int .i64 z1, .int .i64 z2]] w (Keeps (.bool true) w) := by
  have H := Lib.hid (show Num w (.slice A n c) x 40 from ⟨A, n, c, xs, rfl, hr, ha, hx, hn⟩)
  have H' := Lib.hid h'
  have HY := Lib.hid hy0
  have HE := Lib.hid elW
  obtain ⟨_, _, _, _, rfl, _⟩ := id h'
  clear hr ha hx h' hy0
  have EQ1 := Lib.hid two64S
  obtain ⟨M, eM, hM⟩ := clampI_nat z1
  obtain ⟨N, eN, hN⟩ := clampI_nat z2
  have EQ2 : Hid (dg W (x ^ M * x ^ N) = dg W (x ^ (M + N))) := by show _ = _; rw [Nat.pow_add]
  have hP : M * N ≤ 144 := Nat.mul_le_mul hM hN
  have i1 : (M : Int) * (N : Int) ≤ 144 := by
    have : ((M * N : Nat) : Int) ≤ 144 := by omega
    simpa [Int.natCast_mul] using this
  have i2 : 0 ≤ (M : Int) * (N : Int) := by
    have : (0 : Int) ≤ ((M * N : Nat) : Int) := by omega
    simpa [Int.natCast_mul] using this
  have P1 : Hid (40 * M ≤ 480 ∧ 40 * N ≤ 480 ∧ 40 * (M + N) ≤ 960) := by show _ ∧ _ ∧ _; omega
  have HP := Lib.hid hP
  have HD : Hid (All (2 + M * N) (dg (2 + M * N) x) ∧ val (2 + M * N) (dg (2 + M * N) x) = x) := ⟨dg_all (by omega) x, dg_val (by omega) x⟩
  have HDL : Hid ((dg (2 + M * N) x).length ≤ 64 * 40) := by
    have hx := H.out.lt
    exact dg_len64 (by omega) hx
  have CI := Lib.hid (fun w => clamp_any (n := z1) (lo := 0) (hi := 12) (w := w))
  have CJ := Lib.hid (fun w => clamp_any (n := z2) (lo := 0) (hi := 12) (w := w))
  rw [eM] at CI
  rw [eN] at CJ
  clear eM eN hP
  go_enter Try.func4, Try.ntmps4
  go_wp2_with fail
  have e_f0 := (At.box (i := 0) (t := 37) w #[.int .i64 z1, .int .i64 z2] rfl).1
  have g_f0 := At.grow (At.box (i := 0) (t := 37) w #[.int .i64 z1, .int .i64 z2] rfl)
  have e_f1 := (At.box (i := 1) (t := 37) w #[.int .i64 z1, .int .i64 z2] rfl).1
  have g_f1 := At.grow (At.box (i := 1) (t := 37) w #[.int .i64 z1, .int .i64 z2] rfl)
  refine wp_region_grow none [(true, 0), (true, 1), (true, 2), (true, 3), (true, 4), (true, 5)] (by kernel_rfl) (by kernel_rfl) ?_
  repeat (refine ord_pas (by rfl) (fun K hK => ?_); go_simp; refine hK _ _ (fun w' hw' => (by first | (go_simp; done) | (go_simp; intro hh; cases hh))) ?_; clear hK K)
  repeat (refine ord_pas (by rfl) (fun K hK => ?_); go_simp; refine hK _ _ (fun w' hw' => (by first | (go_simp; done) | (go_simp; intro hh; cases hh))) ?_; clear hK K)
  refine ord_nil ?_
  clear g_f0 e_f0 g_f1 e_f1
  go_wp2_with fail
  refine (pow_any (((Num.lit (t := 26) _ [2] (by simp) (by simp [W_eq, All])).mono (L' := 1) (by simp)).below (Below.refl _ _).drew) (N := 64) rfl (by omega) (by simp) (by simp)).mono ?_
  rintro e w1 ⟨A_r31, n_r31, c_r31, rfl, o_r31, hb1, l_r31⟩
  rw [EQ1.out] at o_r31
  go_wp2_with fail
  refine (sameT_yes (o_r31.rd.alloc _) (Rd.litn (k := .u64) (t := 26) _ [0, 1] rfl (by decide)) rfl (by omega)).mono ?_
  rintro e wz ⟨rfl, hbz⟩
  go_wp2_with fail
  refine (CI.out _).mono ?_
  rintro e w' ⟨rfl, rfl⟩
  go_wp2_with fail
  refine (CJ.out _).mono ?_
  rintro e w' ⟨rfl, rfl⟩
  have d40 : decide ((40 : Int) < (n : Int)) = false := by simp; omega
  go_wp2_with fail
  refine (copyN_any ((((((H.out.below ((Below.refl _ _).alloc (Nat.le_refl _) _)).below ((Below.refl _ _).alloc (Nat.le_refl _) _)).below (Below.refl _ _).drew).below hb1).below ((Below.refl _ _).alloc (Nat.le_refl _) _)).below hbz) (by omega)).mono ?_
  rintro e w4 ⟨A_r53, n_r53, c_r53, xs_r53, rfl, o_r53, a_r53, v_r53, hb4, l_r53⟩
  have V_r53 := Lib.hid v_r53
  clear v_r53
  go_wp2_with fail
  refine (pow_any (o_r53.numv a_r53 V_r53.out l_r53) (N := M) rfl (by omega) (by omega) (by have := P1.out; omega)).mono ?_
  rintro e w5 ⟨A_r55, n_r55, c_r55, rfl, o_r55, hb5, l_r55⟩
  go_wp2_with fail
  refine (copyN_any ((((((((H.out.below ((Below.refl _ _).alloc (Nat.le_refl _) _)).below ((Below.refl _ _).alloc (Nat.le_refl _) _)).below (Below.refl _ _).drew).below hb1).below ((Below.refl _ _).alloc (Nat.le_refl _) _)).below hbz).below hb4).below hb5) (by omega)).mono ?_
  rintro e w6 ⟨A_r60, n_r60, c_r60, xs_r60, rfl, o_r60, a_r60, v_r60, hb6, l_r60⟩
  have V_r60 := Lib.hid v_r60
  clear v_r60
  go_wp2_with fail
  refine (pow_any (o_r60.numv a_r60 V_r60.out l_r60) (N := N) rfl (by omega) (by omega) (by have := P1.out; omega)).mono ?_
  rintro e w7 ⟨A_r62, n_r62, c_r62, rfl, o_r62, hb7, l_r62⟩
  go_wp2_with fail
  refine (copyN_any ((((((((((H.out.below ((Below.refl _ _).alloc (Nat.le_refl _) _)).below ((Below.refl _ _).alloc (Nat.le_refl _) _)).below (Below.refl _ _).drew).below hb1).below ((Below.refl _ _).alloc (Nat.le_refl _) _)).below hbz).below hb4).below hb5).below hb6).below hb7) (by omega)).mono ?_
  rintro e w8 ⟨A_r67, n_r67, c_r67, xs_r67, rfl, o_r67, a_r67, v_r67, hb8, l_r67⟩
  have V_r67 := Lib.hid v_r67
  clear v_r67
  go_wp2_with fail
  refine (pow_any (o_r67.numv a_r67 V_r67.out l_r67) (N := M + N) (by omega) (by omega) (by omega) (by have := P1.out; omega)).mono ?_
  rintro e w9 ⟨A_r71, n_r71, c_r71, rfl, o_r71, hb9, l_r71⟩
  go_wp2_with fail
  refine (mul_any (((((o_r55.num l_r55).below hb6).below hb7).below hb8).below hb9) (((o_r62.num l_r62).below hb8).below hb9) (by have := P1.out; omega) (by have := P1.out; omega)).mono ?_
  rintro e w10 ⟨A_r87, n_r87, c_r87, rfl, o_r87, hb10, l_r87⟩
  go_wp2_with fail
  refine (sameT_yes o_r87.rd (o_r71.rd.below hb10) EQ2.out (by have := P1.out; omega)).mono ?_
  rintro e w11 ⟨rfl, hb11⟩
  go_wp2_with fail
  refine (copyN_any ((((((((((((((H'.out.below ((Below.refl _ _).alloc (Nat.le_refl _) _)).below ((Below.refl _ _).alloc (Nat.le_refl _) _)).below (Below.refl _ _).drew).below hb1).below ((Below.refl _ _).alloc (Nat.le_refl _) _)).below hbz).below hb4).below hb5).below hb6).below hb7).below hb8).below hb9).below hb10).below hb11) (by omega)).mono ?_
  rintro e w12 ⟨A_r93, n_r93, c_r93, xs_r93, rfl, o_r93, a_r93, v_r93, hb12, l_r93⟩
  have V_r93 := Lib.hid v_r93
  clear v_r93
  go_wp2_with fail
  refine (nnorm_any (o_r93.numv a_r93 V_r93.out l_r93) (by omega)).mono ?_
  rintro e w13 ⟨A_r94, n_r94, c_r94, rfl, o_r94, hb13, l_r94⟩
  have zz1 : 0 < n_r94 := len_pos o_r94 HY.out
  have zz2 : decide ((0 : Int) < (n_r94 : Int)) = true := by simp; omega
  go_wp2_with fail
  refine (copyN_any ((((((((((((((((H'.out.below ((Below.refl _ _).alloc (Nat.le_refl _) _)).below ((Below.refl _ _).alloc (Nat.le_refl _) _)).below (Below.refl _ _).drew).below hb1).below ((Below.refl _ _).alloc (Nat.le_refl _) _)).below hbz).below hb4).below hb5).below hb6).below hb7).below hb8).below hb9).below hb10).below hb11).below hb12).below hb13) (by omega)).mono ?_
  rintro e w14 ⟨A_r100, n_r100, c_r100, xs_r100, rfl, o_r100, a_r100, v_r100, hb14, l_r100⟩
  have V_r100 := Lib.hid v_r100
  clear v_r100
  go_wp2_with fail
  refine (mod_any ((((((o_r71.num l_r71).below hb10).below hb11).below hb12).below hb13).below hb14) (o_r100.numv a_r100 V_r100.out l_r100) HY.out (by have := P1.out; omega) (by omega)).mono ?_
  rintro e w15 ⟨A_r101, n_r101, c_r101, rfl, o_r101, hb15, l_r101⟩
  go_wp2_with fail
  refine (copyN_any ((((((((((((((((((H.out.below ((Below.refl _ _).alloc (Nat.le_refl _) _)).below ((Below.refl _ _).alloc (Nat.le_refl _) _)).below (Below.refl _ _).drew).below hb1).below ((Below.refl _ _).alloc (Nat.le_refl _) _)).below hbz).below hb4).below hb5).below hb6).below hb7).below hb8).below hb9).below hb10).below hb11).below hb12).below hb13).below hb14).below hb15) (by omega)).mono ?_
  rintro e w16 ⟨A_r106, n_r106, c_r106, xs_r106, rfl, o_r106, a_r106, v_r106, hb16, l_r106⟩
  have V_r106 := Lib.hid v_r106
  clear v_r106
  go_wp2_with fail
  refine (nof_any (x := M + N) (by omega) (by rw [W_eq]; omega)).mono ?_
  rintro e w17 ⟨A_r111, n_r111, c_r111, rfl, o_r111, hb17, l_r111⟩
  go_wp2_with fail
  refine (copyN_any ((((((((((((((((((((H'.out.below ((Below.refl _ _).alloc (Nat.le_refl _) _)).below ((Below.refl _ _).alloc (Nat.le_refl _) _)).below (Below.refl _ _).drew).below hb1).below ((Below.refl _ _).alloc (Nat.le_refl _) _)).below hbz).below hb4).below hb5).below hb6).below hb7).below hb8).below hb9).below hb10).below hb11).below hb12).below hb13).below hb14).below hb15).below hb16).below hb17) (by omega)).mono ?_
  rintro e w18 ⟨A_r113, n_r113, c_r113, xs_r113, rfl, o_r113, a_r113, v_r113, hb18, l_r113⟩
  have V_r113 := Lib.hid v_r113
  clear v_r113
  go_wp2_with fail
  refine (powmod_any (((o_r106.numv a_r106 V_r106.out l_r106).below hb17).below hb18) ((o_r111.num l_r111).below hb18) (o_r113.numv a_r113 V_r113.out l_r113) HY.out (by omega) (by omega) (by omega)).mono ?_
  rintro e w19 ⟨A_r114, n_r114, c_r114, rfl, o_r114, hb19, l_r114⟩
  go_wp2_with fail
  refine (sameT_yes o_r114.rd ((((o_r101.rd.below hb16).below hb17).below hb18).below hb19) rfl (by omega)).mono ?_
  rintro e w20 ⟨rfl, hb20⟩
  go_wp2_with fail
  refine (copyN_any (((((((((((((((((((((((H.out.below ((Below.refl _ _).alloc (Nat.le_refl _) _)).below ((Below.refl _ _).alloc (Nat.le_refl _) _)).below (Below.refl _ _).drew).below hb1).below ((Below.refl _ _).alloc (Nat.le_refl _) _)).below hbz).below hb4).below hb5).below hb6).below hb7).below hb8).below hb9).below hb10).below hb11).below hb12).below hb13).below hb14).below hb15).below hb16).below hb17).below hb18).below hb19).below hb20) (by omega)).mono ?_
  rintro e w21 ⟨A_r136, n_r136, c_r136, xs_r136, rfl, o_r136, a_r136, v_r136, hb21, l_r136⟩
  have V_r136 := Lib.hid v_r136
  clear v_r136
  go_wp2_with fail
  refine (ddigits_any (b := 2 + M * N) (o_r136.numv a_r136 V_r136.out l_r136) (by push_cast; rfl) (by omega) (by have := HP.out; rw [W_eq]; omega) (by omega)).mono ?_
  rintro e w22 ⟨A_r138, n_r138, c_r138, rfl, o_r138, hb22⟩
  have hln : n_r138 ≤ 2560 := by have := o_r138.len; have := HDL.out; omega
  have HR := Lib.hid o_r138.rd
  go_wp2_with (at_builtin; (refine wpList_app rfl (.tmp 142) (.tmp 143) rfl HE.out (t := 26) (k := .u64) (B := w22.heap.size) (xs := []) rfl rfl (Own.lit0 _ (Nat.le_refl _)) (HR.out.alloc _) (by omega) (by simp) ?_); intro B1 e1 ws hoq hbq _ _)
  have C5 := Lib.hid (undigits_any (b := 2 + M * N) hoq.rd HD.out.1 (by omega) (by have := HP.out; rw [W_eq]; omega) (by omega))
  rw [List.nil_append, HD.out.2, show ((2 + M * N : Nat) : Int) = 2 + (M : Int) * (N : Int) by push_cast; rfl, Nat.zero_add] at C5
  go_wp2_with fail
  refine (C5.out).mono ?_
  rintro e w23 ⟨A_r146, n_r146, c_r146, rfl, o_r146, hb23, l_r146⟩
  go_wp2_with fail
  refine (copyN_any (((((((((((((((((((((((((((H.out.below ((Below.refl _ _).alloc (Nat.le_refl _) _)).below ((Below.refl _ _).alloc (Nat.le_refl _) _)).below (Below.refl _ _).drew).below hb1).below ((Below.refl _ _).alloc (Nat.le_refl _) _)).below hbz).below hb4).below hb5).below hb6).below hb7).below hb8).below hb9).below hb10).below hb11).below hb12).below hb13).below hb14).below hb15).below hb16).below hb17).below hb18).below hb19).below hb20).below hb21).below hb22).below ((belowA _ _).trans hbq)).below hb23) (by omega)).mono ?_
  rintro e w24 ⟨A_r158, n_r158, c_r158, xs_r158, rfl, o_r158, a_r158, v_r158, hb24, l_r158⟩
  have V_r158 := Lib.hid v_r158
  clear v_r158
  go_wp2_with fail
  refine (nnorm_any (o_r158.numv a_r158 V_r158.out l_r158) (by omega)).mono ?_
  rintro e w25 ⟨A_r159, n_r159, c_r159, rfl, o_r159, hb25, l_r159⟩
  go_wp2_with fail
  refine (sameT_yes ((o_r146.rd.below hb24).below hb25) o_r159.rd rfl (by omega)).mono ?_
  rintro e w26 ⟨rfl, hb26⟩
  have HR2 := Lib.hid (((((o_r138.rd.below ((belowA _ _).trans hbq)).below hb23).below hb24).below hb25).below hb26)
  have HB2 := Lib.hid (bt (bt (bt (bt (bt (bt (bt (bt (bt (bt (bt (bt (bt (bt (bt (bt (bt (bt (bt (bt (bt (bt (bt (bt (bt (bt (bt (bt (bt ((Below.refl _ _).alloc (Nat.le_refl _) _) ((Below.refl _ _).alloc (Nat.le_refl _) _)) (Below.refl _ _).drew) hb1) ((Below.refl _ _).alloc (Nat.le_refl _) _)) hbz) hb4) hb5) hb6) hb7) hb8) hb9) hb10) hb11) hb12) hb13) hb14) hb15) hb16) hb17) hb18) hb19) hb20) hb21) hb22) ((belowA _ _).trans hbq)) hb23) hb24) hb25) hb26)
  clear HR C5
  go_wp2
  go_loop [165] (fun i => ∃ k : Nat, k ≤ n_r138 ∧ i = .int .i64 (k : Int)) (fun i => n_r138 - (intOf i).toNat)
  case atStart => exact ⟨0, Nat.zero_le _, rfl⟩
  case round =>
    obtain ⟨k, hk, rfl⟩ := hrel
    by_cases hlt : k < n_r138
    · obtain ⟨bb, off, ea, hbb, hca⟩ := HR2.out.at hlt
      subst ea
      have hd := HD.out.1.nth (by omega) k
      have q1 : ¬ (2 + (M : Int) * (N : Int) ≤ ((nth (dg (2 + M * N) x) k : Nat) : Int)) := by
        have : ((nth (dg (2 + M * N) x) k : Nat) : Int) < ((2 + M * N : Nat) : Int) := by omega
        rw [show ((2 + M * N : Nat) : Int) = 2 + (M : Int) * (N : Int) by push_cast; rfl] at this
        omega
      have q2 : decide (2 + (M : Int) * (N : Int) ≤ ((nth (dg (2 + M * N) x) k : Nat) : Int)) = false := by simpa using q1
      have q3 : ((nth (dg (2 + M * N) x) k : Nat) : Int) < 2 + (M : Int) * (N : Int) := by omega
      generalize nth (dg (2 + M * N) x) k = dd at *
      clear hd
      go_wp2
      go_round
      case rel => exact ⟨k + 1, by omega, by go_num⟩
      case measure => simp [intOf]; omega
    · obtain rfl : k = n_r138 := by omega
      go_wp2
      go_ret
      exact ⟨rfl, HB2.out⟩
set_option maxHeartbeats 8000000 in
set_option maxRecDepth 100000 in
theorem surdPowers_2 {A : Option Addr} {n c x y K : Nat} {xs : List Nat} {u : Value} {z1 z2 : Int} {w : World} (hr : Rd .u64 w A n c xs) (ha : All W xs) (hx : val W xs = x) (h' : Num w u y K) (hn : n ≤ 40) (hn2 : n ≤ 1048576) (hK : K ≤ 1048576) (hy0 : y = 0) :
    Calls Try.prog 4 #[.slice A n c, u, .agg #[.int .i64 z1, .int .i64 z2]] w (Keeps (.bool true) w) := by
  have H := Lib.hid (show Num w (.slice A n c) x 40 from ⟨A, n, c, xs, rfl, hr, ha, hx, hn⟩)
  have H' := Lib.hid h'
  have HY := Lib.hid hy0
  have HE := Lib.hid elW
  obtain ⟨_, _, _, _, rfl, _⟩ := id h'
  clear hr ha hx h' hy0
  have EQ1 := Lib.hid two64S
  obtain ⟨M, eM, hM⟩ := clampI_nat z1
  obtain ⟨N, eN, hN⟩ := clampI_nat z2
  have EQ2 : Hid (dg W (x ^ M * x ^ N) = dg W (x ^ (M + N))) := by show _ = _; rw [Nat.pow_add]
  have hP : M * N ≤ 144 := Nat.mul_le_mul hM hN
  have i1 : (M : Int) * (N : Int) ≤ 144 := by
    have : ((M * N : Nat) : Int) ≤ 144 := by omega
    simpa [Int.natCast_mul] using this
  have i2 : 0 ≤ (M : Int) * (N : Int) := by
    have : (0 : Int) ≤ ((M * N : Nat) : Int) := by omega
    simpa [Int.natCast_mul] using this
  have P1 : Hid (40 * M ≤ 480 ∧ 40 * N ≤ 480 ∧ 40 * (M + N) ≤ 960) := by show _ ∧ _ ∧ _; omega
  have HP := Lib.hid hP
  have HD : Hid (All (2 + M * N) (dg (2 + M * N) x) ∧ val (2 + M * N) (dg (2 + M * N) x) = x) := ⟨dg_all (by omega) x, dg_val (by omega) x⟩
  have HDL : Hid ((dg (2 + M * N) x).length ≤ 64 * 40) := by
    have hx := H.out.lt
    exact dg_len64 (by omega) hx
  have CI := Lib.hid (fun w => clamp_any (n := z1) (lo := 0) (hi := 12) (w := w))
  have CJ := Lib.hid (fun w => clamp_any (n := z2) (lo := 0) (hi := 12) (w := w))
  rw [eM] at CI
  rw [eN] at CJ
  clear eM eN hP
  go_enter Try.func4, Try.ntmps4
  go_wp2_with fail
  have e_f0 := (At.box (i := 0) (t := 37) w #[.int .i64 z1, .int .i64 z2] rfl).1
  have g_f0 := At.grow (At.box (i := 0) (t := 37) w #[.int .i64 z1, .int .i64 z2] rfl)
  have e_f1 := (At.box (i := 1) (t := 37) w #[.int .i64 z1, .int .i64 z2] rfl).1
  have g_f1 := At.grow (At.box (i := 1) (t := 37) w #[.int .i64 z1, .int .i64 z2] rfl)
  refine wp_region_grow none [(true, 0), (true, 1), (true, 2), (true, 3), (true, 4), (true, 5)] (by kernel_rfl) (by kernel_rfl) ?_
  repeat (refine ord_pas (by rfl) (fun K hK => ?_); go_simp; refine hK _ _ (fun w' hw' => (by first | (go_simp; done) | (go_simp; intro hh; cases hh))) ?_; clear hK K)
  repeat (refine ord_pas (by rfl) (fun K hK => ?_); go_simp; refine hK _ _ (fun w' hw' => (by first | (go_simp; done) | (go_simp; intro hh; cases hh))) ?_; clear hK K)
  refine ord_nil ?_
  clear g_f0 e_f0 g_f1 e_f1
  go_wp2_with fail
  refine (pow_any (((Num.lit (t := 26) _ [2] (by simp) (by simp [W_eq, All])).mono (L' := 1) (by simp)).below (Below.refl _ _).drew) (N := 64) rfl (by omega) (by simp) (by simp)).mono ?_
  rintro e w1 ⟨A_r31, n_r31, c_r31, rfl, o_r31, hb1, l_r31⟩
  rw [EQ1.out] at o_r31
  go_wp2_with fail
  refine (sameT_yes (o_r31.rd.alloc _) (Rd.litn (k := .u64) (t := 26) _ [0, 1] rfl (by decide)) rfl (by omega)).mono ?_
  rintro e wz ⟨rfl, hbz⟩
  go_wp2_with fail
  refine (CI.out _).mono ?_
  rintro e w' ⟨rfl, rfl⟩
  go_wp2_with fail
  refine (CJ.out _).mono ?_
  rintro e w' ⟨rfl, rfl⟩
  have d40 : decide ((40 : Int) < (n : Int)) = false := by simp; omega
  go_wp2_with fail
  refine (copyN_any ((((((H.out.below ((Below.refl _ _).alloc (Nat.le_refl _) _)).below ((Below.refl _ _).alloc (Nat.le_refl _) _)).below (Below.refl _ _).drew).below hb1).below ((Below.refl _ _).alloc (Nat.le_refl _) _)).below hbz) (by omega)).mono ?_
  rintro e w4 ⟨A_r53, n_r53, c_r53, xs_r53, rfl, o_r53, a_r53, v_r53, hb4, l_r53⟩
  have V_r53 := Lib.hid v_r53
  clear v_r53
  go_wp2_with fail
  refine (pow_any (o_r53.numv a_r53 V_r53.out l_r53) (N := M) rfl (by omega) (by omega) (by have := P1.out; omega)).mono ?_
  rintro e w5 ⟨A_r55, n_r55, c_r55, rfl, o_r55, hb5, l_r55⟩
  go_wp2_with fail
  refine (copyN_any ((((((((H.out.below ((Below.refl _ _).alloc (Nat.le_refl _) _)).below ((Below.refl _ _).alloc (Nat.le_refl _) _)).below (Below.refl _ _).drew).below hb1).below ((Below.refl _ _).alloc (Nat.le_refl _) _)).below hbz).below hb4).below hb5) (by omega)).mono ?_
  rintro e w6 ⟨A_r60, n_r60, c_r60, xs_r60, rfl, o_r60, a_r60, v_r60, hb6, l_r60⟩
  have V_r60 := Lib.hid v_r60
  clear v_r60
  go_wp2_with fail
  refine (pow_any (o_r60.numv a_r60 V_r60.out l_r60) (N := N) rfl (by omega) (by omega) (by have := P1.out; omega)).mono ?_
  rintro e w7 ⟨A_r62, n_r62, c_r62, rfl, o_r62, hb7, l_r62⟩
  go_wp2_with fail
  refine (copyN_any ((((((((((H.out.below ((Below.refl _ _).alloc (Nat.le_refl _) _)).below ((Below.refl _ _).alloc (Nat.le_refl _) _)).below (Below.refl _ _).drew).below hb1).below ((Below.refl _ _).alloc (Nat.le_refl _) _)).below hbz).below hb4).below hb5).below hb6).below hb7) (by omega)).mono ?_
  rintro e w8 ⟨A_r67, n_r67, c_r67, xs_r67, rfl, o_r67, a_r67, v_r67, hb8, l_r67⟩
  have V_r67 := Lib.hid v_r67
  clear v_r67
  go_wp2_with fail
  refine (pow_any (o_r67.numv a_r67 V_r67.out l_r67) (N := M + N) (by omega) (by omega) (by omega) (by have := P1.out; omega)).mono ?_
  rintro e w9 ⟨A_r71, n_r71, c_r71, rfl, o_r71, hb9, l_r71⟩
  go_wp2_with fail
  refine (mul_any (((((o_r55.num l_r55).below hb6).below hb7).below hb8).below hb9) (((o_r62.num l_r62).below hb8).below hb9) (by have := P1.out; omega) (by have := P1.out; omega)).mono ?_
  rintro e w10 ⟨A_r87, n_r87, c_r87, rfl, o_r87, hb10, l_r87⟩
  go_wp2_with fail
  refine (sameT_yes o_r87.rd (o_r71.rd.below hb10) EQ2.out (by have := P1.out; omega)).mono ?_
  rintro e w11 ⟨rfl, hb11⟩
  go_wp2_with fail
  refine (copyN_any ((((((((((((((H'.out.below ((Below.refl _ _).alloc (Nat.le_refl _) _)).below ((Below.refl _ _).alloc (Nat.le_refl _) _)).below (Below.refl _ _).drew).below hb1).below ((Below.refl _ _).alloc (Nat.le_refl _) _)).below hbz).below hb4).below hb5).below hb6).below hb7).below hb8).below hb9).below hb10).below hb11) (by omega)).mono ?_
  rintro e w12 ⟨A_r93, n_r93, c_r93, xs_r93, rfl, o_r93, a_r93, v_r93, hb12, l_r93⟩
  have V_r93 := Lib.hid v_r93
  clear v_r93
  go_wp2_with fail
  refine (nnorm_any (o_r93.numv a_r93 V_r93.out l_r93) (by omega)).mono ?_
  rintro e w13 ⟨A_r94, n_r94, c_r94, rfl, o_r94, hb13, l_r94⟩
  obtain rfl := len_zero o_r94 HY.out
  go_wp2_with fail
  refine (copyN_any ((((((((((((((((H.out.below ((Below.refl _ _).alloc (Nat.le_refl _) _)).below ((Below.refl _ _).alloc (Nat.le_refl _) _)).below (Below.refl _ _).drew).below hb1).below ((Below.refl _ _).alloc (Nat.le_refl _) _)).below hbz).below hb4).below hb5).below hb6).below hb7).below hb8).below hb9).below hb10).below hb11).below hb12).below hb13) (by omega)).mono ?_
  rintro e w14 ⟨A_r136, n_r136, c_r136, xs_r136, rfl, o_r136, a_r136, v_r136, hb14, l_r136⟩
  have V_r136 := Lib.hid v_r136
  clear v_r136
  go_wp2_with fail
  refine (ddigits_any (b := 2 + M * N) (o_r136.numv a_r136 V_r136.out l_r136) (by push_cast; rfl) (by omega) (by have := HP.out; rw [W_eq]; omega) (by omega)).mono ?_
  rintro e w15 ⟨A_r138, n_r138, c_r138, rfl, o_r138, hb15⟩
  have hln : n_r138 ≤ 2560 := by have := o_r138.len; have := HDL.out; omega
  have HR := Lib.hid o_r138.rd
  go_wp2_with (at_builtin; (refine wpList_app rfl (.tmp 142) (.tmp 143) rfl HE.out (t := 26) (k := .u64) (B := w15.heap.size) (xs := []) rfl rfl (Own.lit0 _ (Nat.le_refl _)) (HR.out.alloc _) (by omega) (by simp) ?_); intro B1 e1 ws hoq hbq _ _)
  have C5 := Lib.hid (undigits_any (b := 2 + M * N) hoq.rd HD.out.1 (by omega) (by have := HP.out; rw [W_eq]; omega) (by omega))
  rw [List.nil_append, HD.out.2, show ((2 + M * N : Nat) : Int) = 2 + (M : Int) * (N : Int) by push_cast; rfl, Nat.zero_add] at C5
  go_wp2_with fail
  refine (C5.out).mono ?_
  rintro e w16 ⟨A_r146, n_r146, c_r146, rfl, o_r146, hb16, l_r146⟩
  go_wp2_with fail
  refine (copyN_any ((((((((((((((((((((H.out.below ((Below.refl _ _).alloc (Nat.le_refl _) _)).below ((Below.refl _ _).alloc (Nat.le_refl _) _)).below (Below.refl _ _).drew).below hb1).below ((Below.refl _ _).alloc (Nat.le_refl _) _)).below hbz).below hb4).below hb5).below hb6).below hb7).below hb8).below hb9).below hb10).below hb11).below hb12).below hb13).below hb14).below hb15).below ((belowA _ _).trans hbq)).below hb16) (by omega)).mono ?_
  rintro e w17 ⟨A_r158, n_r158, c_r158, xs_r158, rfl, o_r158, a_r158, v_r158, hb17, l_r158⟩
  have V_r158 := Lib.hid v_r158
  clear v_r158
  go_wp2_with fail
  refine (nnorm_any (o_r158.numv a_r158 V_r158.out l_r158) (by omega)).mono ?_
  rintro e w18 ⟨A_r159, n_r159, c_r159, rfl, o_r159, hb18, l_r159⟩
  go_wp2_with fail
  refine (sameT_yes ((o_r146.rd.below hb17).below hb18) o_r159.rd rfl (by omega)).mono ?_
  rintro e w19 ⟨rfl, hb19⟩
  have HR2 := Lib.hid (((((o_r138.rd.below ((belowA _ _).trans hbq)).below hb16).below hb17).below hb18).below hb19)
  have HB2 := Lib.hid (bt (bt (bt (bt (bt (bt (bt (bt (bt (bt (bt (bt (bt (bt (bt (bt (bt (bt (bt (bt (bt (bt ((Below.refl _ _).alloc (Nat.le_refl _) _) ((Below.refl _ _).alloc (Nat.le_refl _) _)) (Below.refl _ _).drew) hb1) ((Below.refl _ _).alloc (Nat.le_refl _) _)) hbz) hb4) hb5) hb6) hb7) hb8) hb9) hb10) hb11) hb12) hb13) hb14) hb15) ((belowA _ _).trans hbq)) hb16) hb17) hb18) hb19)
  clear HR C5
  go_wp2
  go_loop [165] (fun i => ∃ k : Nat, k ≤ n_r138 ∧ i = .int .i64 (k : Int)) (fun i => n_r138 - (intOf i).toNat)
  case atStart => exact ⟨0, Nat.zero_le _, rfl⟩
  case round =>
    obtain ⟨k, hk, rfl⟩ := hrel
    by_cases hlt : k < n_r138
    · obtain ⟨bb, off, ea, hbb, hca⟩ := HR2.out.at hlt
      subst ea
      have hd := HD.out.1.nth (by omega) k
      have q1 : ¬ (2 + (M : Int) * (N : Int) ≤ ((nth (dg (2 + M * N) x) k : Nat) : Int)) := by
        have : ((nth (dg (2 + M * N) x) k : Nat) : Int) < ((2 + M * N : Nat) : Int) := by omega
        rw [show ((2 + M * N : Nat) : Int) = 2 + (M : Int) * (N : Int) by push_cast; rfl] at this
        omega
      have q2 : decide (2 + (M : Int) * (N : Int) ≤ ((nth (dg (2 + M * N) x) k : Nat) : Int)) = false := by simpa using q1
      have q3 : ((nth (dg (2 + M * N) x) k : Nat) : Int) < 2 + (M : Int) * (N : Int) := by omega
      generalize nth (dg (2 + M * N) x) k = dd at *
      clear hd
      go_wp2
      go_round
      case rel => exact ⟨k + 1, by omega, by go_num⟩
      case measure => simp [intOf]; omega
    · obtain rfl : k = n_r138 := by omega
      go_wp2
      go_ret
      exact ⟨rfl, HB2.out⟩
set_option maxHeartbeats 8000000 in
set_option maxRecDepth 100000 in
theorem surdPowers_3 {A : Option Addr} {n c x y K : Nat} {xs : List Nat} {u : Value} {z1 z2 : Int} {w : World} (hr : Rd .u64 w A n c xs) (ha : All W xs) (hx : val W (xs.take 40) = x) (h' : Num w u y K) (hn : 40 < n) (hn2 : n ≤ 1048576) (hK : K ≤ 1048576) (hy0 : 0 < y) :
    Calls Try.prog 4 #[.slice A n c, u, .agg #[.int .i64 z1, .int .i64 z2]] w (Keeps (.bool true) w) := by
  have H := Lib.hid (show Num w (.slice A 40 c) x 40 from ⟨A, 40, c, xs.take 40, rfl, hr.upto (by omega), ha.take 40, hx, Nat.le_refl _⟩)
  have hcap : n ≤ c := hr.cap
  have H' := Lib.hid h'
  have HY := Lib.hid hy0
  have HE := Lib.hid elW
  obtain ⟨_, _, _, _, rfl, _⟩ := id h'
  clear hr ha hx h' hy0
  have EQ1 := Lib.hid two64S
  obtain ⟨M, eM, hM⟩ := clampI_nat z1
  obtain ⟨N, eN, hN⟩ := clampI_nat z2
  have EQ2 : Hid (dg W (x ^ M * x ^ N) = dg W (x ^ (M + N))) := by show _ = _; rw [Nat.pow_add]
  have hP : M * N ≤ 144 := Nat.mul_le_mul hM hN
  have i1 : (M : Int) * (N : Int) ≤ 144 := by
    have : ((M * N : Nat) : Int) ≤ 144 := by omega
    simpa [Int.natCast_mul] using this
  have i2 : 0 ≤ (M : Int) * (N : Int) := by
    have : (0 : Int) ≤ ((M * N : Nat) : Int) := by omega
    simpa [Int.natCast_mul] using this
  have P1 : Hid (40 * M ≤ 480 ∧ 40 * N ≤ 480 ∧ 40 * (M + N) ≤ 960) := by show _ ∧ _ ∧ _; omega
  have HP := Lib.hid hP
  have HD : Hid (All (2 + M * N) (dg (2 + M * N) x) ∧ val (2 + M * N) (dg (2 + M * N) x) = x) := ⟨dg_all (by omega) x, dg_val (by omega) x⟩
  have HDL : Hid ((dg (2 + M * N) x).length ≤ 64 * 40) := by
    have hx := H.out.lt
    exact dg_len64 (by omega) hx
  have CI := Lib.hid (fun w => clamp_any (n := z1) (lo := 0) (hi := 12) (w := w))
  have CJ := Lib.hid (fun w => clamp_any (n := z2) (lo := 0) (hi := 12) (w := w))
  rw [eM] at CI
  rw [eN] at CJ
  clear eM eN hP
  go_enter Try.func4, Try.ntmps4
  go_wp2_with fail
  have e_f0 := (At.box (i := 0) (t := 37) w #[.int .i64 z1, .int .i64 z2] rfl).1
  have g_f0 := At.grow (At.box (i := 0) (t := 37) w #[.int .i64 z1, .int .i64 z2] rfl)
  have e_f1 := (At.box (i := 1) (t := 37) w #[.int .i64 z1, .int .i64 z2] rfl).1
  have g_f1 := At.grow (At.box (i := 1) (t := 37) w #[.int .i64 z1, .int .i64 z2] rfl)
  refine wp_region_grow none [(true, 0), (true, 1), (true, 2), (true, 3), (true, 4), (true, 5)] (by kernel_rfl) (by kernel_rfl) ?_
  repeat (refine ord_pas (by rfl) (fun K hK => ?_); go_simp; refine hK _ _ (fun w' hw' => (by first | (go_simp; done) | (go_simp; intro hh; cases hh))) ?_; clear hK K)
  repeat (refine ord_pas (by rfl) (fun K hK => ?_); go_simp; refine hK _ _ (fun w' hw' => (by first | (go_simp; done) | (go_simp; intro hh; cases hh))) ?_; clear hK K)
  refine ord_nil ?_
  clear g_f0 e_f0 g_f1 e_f1
  go_wp2_with fail
  refine (pow_any (((Num.lit (t := 26) _ [2] (by simp) (by simp [W_eq, All])).mono (L' := 1) (by simp)).below (Below.refl _ _).drew) (N := 64) rfl (by omega) (by simp) (by simp)).mono ?_
  rintro e w1 ⟨A_r31, n_r31, c_r31, rfl, o_r31, hb1, l_r31⟩
  rw [EQ1.out] at o_r31
  go_wp2_with fail
  refine (sameT_yes (o_r31.rd.alloc _) (Rd.litn (k := .u64) (t := 26) _ [0, 1] rfl (by decide)) rfl (by omega)).mono ?_
  rintro e wz ⟨rfl, hbz⟩
  go_wp2_with fail
  refine (CI.out _).mono ?_
  rintro e w' ⟨rfl, rfl⟩
  go_wp2_with fail
  refine (CJ.out _).mono ?_
  rintro e w' ⟨rfl, rfl⟩
  have d40 : decide ((40 : Int) < (n : Int)) = true := by simp; omega
  go_wp2_with fail
  refine (copyN_any ((((((H.out.below ((Below.refl _ _).alloc (Nat.le_refl _) _)).below ((Below.refl _ _).alloc (Nat.le_refl _) _)).below (Below.refl _ _).drew).below hb1).below ((Below.refl _ _).alloc (Nat.le_refl _) _)).below hbz) (by omega)).mono ?_
  rintro e w4 ⟨A_r53, n_r53, c_r53, xs_r53, rfl, o_r53, a_r53, v_r53, hb4, l_r53⟩
  have V_r53 := Lib.hid v_r53
  clear v_r53
  go_wp2_with fail
  refine (pow_any (o_r53.numv a_r53 V_r53.out l_r53) (N := M) rfl (by omega) (by omega) (by have := P1.out; omega)).mono ?_
  rintro e w5 ⟨A_r55, n_r55, c_r55, rfl, o_r55, hb5, l_r55⟩
  go_wp2_with fail
  refine (copyN_any ((((((((H.out.below ((Below.refl _ _).alloc (Nat.le_refl _) _)).below ((Below.refl _ _).alloc (Nat.le_refl _) _)).below (Below.refl _ _).drew).below hb1).below ((Below.refl _ _).alloc (Nat.le_refl _) _)).below hbz).below hb4).below hb5) (by omega)).mono ?_
  rintro e w6 ⟨A_r60, n_r60, c_r60, xs_r60, rfl, o_r60, a_r60, v_r60, hb6, l_r60⟩
  have V_r60 := Lib.hid v_r60
  clear v_r60
  go_wp2_with fail
  refine (pow_any (o_r60.numv a_r60 V_r60.out l_r60) (N := N) rfl (by omega) (by omega) (by have := P1.out; omega)).mono ?_
  rintro e w7 ⟨A_r62, n_r62, c_r62, rfl, o_r62, hb7, l_r62⟩
  go_wp2_with fail
  refine (copyN_any ((((((((((H.out.below ((Below.refl _ _).alloc (Nat.le_refl _) _)).below ((Below.refl _ _).alloc (Nat.le_refl _) _)).below (Below.refl _ _).drew).below hb1).below ((Below.refl _ _).alloc (Nat.le_refl _) _)).below hbz).below hb4).below hb5).below hb6).below hb7) (by omega)).mono ?_
  rintro e w8 ⟨A_r67, n_r67, c_r67, xs_r67, rfl, o_r67, a_r67, v_r67, hb8, l_r67⟩
  have V_r67 := Lib.hid v_r67
  clear v_r67
  go_wp2_with fail
  refine (pow_any (o_r67.numv a_r67 V_r67.out l_r67) (N := M + N) (by omega) (by omega) (by omega) (by have := P1.out; omega)).mono ?_
  rintro e w9 ⟨A_r71, n_r71, c_r71, rfl, o_r71, hb9, l_r71⟩
  go_wp2_with fail
  refine (mul_any (((((o_r55.num l_r55).below hb6).below hb7).below hb8).below hb9) (((o_r62.num l_r62).below hb8).below hb9) (by have := P1.out; omega) (by have := P1.out; omega)).mono ?_
  rintro e w10 ⟨A_r87, n_r87, c_r87, rfl, o_r87, hb10, l_r87⟩
  go_wp2_with fail
  refine (sameT_yes o_r87.rd (o_r71.rd.below hb10) EQ2.out (by have := P1.out; omega)).mono ?_
  rintro e w11 ⟨rfl, hb11⟩
  go_wp2_with fail
  refine (copyN_any ((((((((((((((H'.out.below ((Below.refl _ _).alloc (Nat.le_refl _) _)).below ((Below.refl _ _).alloc (Nat.le_refl _) _)).below (Below.refl _ _).drew).below hb1).below ((Below.refl _ _).alloc (Nat.le_refl _) _)).below hbz).below hb4).below hb5).below hb6).below hb7).below hb8).below hb9).below hb10).below hb11) (by omega)).mono ?_
  rintro e w12 ⟨A_r93, n_r93, c_r93, xs_r93, rfl, o_r93, a_r93, v_r93, hb12, l_r93⟩
  have V_r93 := Lib.hid v_r93
  clear v_r93
  go_wp2_with fail
  refine (nnorm_any (o_r93.numv a_r93 V_r93.out l_r93) (by omega)).mono ?_
  rintro e w13 ⟨A_r94, n_r94, c_r94, rfl, o_r94, hb13, l_r94⟩
  have zz1 : 0 < n_r94 := len_pos o_r94 HY.out
  have zz2 : decide ((0 : Int) < (n_r94 : Int)) = true := by simp; omega
  go_wp2_with fail
  refine (copyN_any ((((((((((((((((H'.out.below ((Below.refl _ _).alloc (Nat.le_refl _) _)).below ((Below.refl _ _).alloc (Nat.le_refl _) _)).below (Below.refl _ _).drew).below hb1).below ((Below.refl _ _).alloc (Nat.le_refl _) _)).below hbz).below hb4).below hb5).below hb6).below hb7).below hb8).below hb9).below hb10).below hb11).below hb12).below hb13) (by omega)).mono ?_
  rintro e w14 ⟨A_r100, n_r100, c_r100, xs_r100, rfl, o_r100, a_r100, v_r100, hb14, l_r100⟩
  have V_r100 := Lib.hid v_r100
  clear v_r100
  go_wp2_with fail
  refine (mod_any ((((((o_r71.num l_r71).below hb10).below hb11).below hb12).below hb13).below hb14) (o_r100.numv a_r100 V_r100.out l_r100) HY.out (by have := P1.out; omega) (by omega)).mono ?_
  rintro e w15 ⟨A_r101, n_r101, c_r101, rfl, o_r101, hb15, l_r101⟩
  go_wp2_with fail
  refine (copyN_any ((((((((((((((((((H.out.below ((Below.refl _ _).alloc (Nat.le_refl _) _)).below ((Below.refl _ _).alloc (Nat.le_refl _) _)).below (Below.refl _ _).drew).below hb1).below ((Below.refl _ _).alloc (Nat.le_refl _) _)).below hbz).below hb4).below hb5).below hb6).below hb7).below hb8).below hb9).below hb10).below hb11).below hb12).below hb13).below hb14).below hb15) (by omega)).mono ?_
  rintro e w16 ⟨A_r106, n_r106, c_r106, xs_r106, rfl, o_r106, a_r106, v_r106, hb16, l_r106⟩
  have V_r106 := Lib.hid v_r106
  clear v_r106
  go_wp2_with fail
  refine (nof_any (x := M + N) (by omega) (by rw [W_eq]; omega)).mono ?_
  rintro e w17 ⟨A_r111, n_r111, c_r111, rfl, o_r111, hb17, l_r111⟩
  go_wp2_with fail
  refine (copyN_any ((((((((((((((((((((H'.out.below ((Below.refl _ _).alloc (Nat.le_refl _) _)).below ((Below.refl _ _).alloc (Nat.le_refl _) _)).below (Below.refl _ _).drew).below hb1).below ((Below.refl _ _).alloc (Nat.le_refl _) _)).below hbz).below hb4).below hb5).below hb6).below hb7).below hb8).below hb9).below hb10).below hb11).below hb12).below hb13).below hb14).below hb15).below hb16).below hb17) (by omega)).mono ?_
  rintro e w18 ⟨A_r113, n_r113, c_r113, xs_r113, rfl, o_r113, a_r113, v_r113, hb18, l_r113⟩
  have V_r113 := Lib.hid v_r113
  clear v_r113
  go_wp2_with fail
  refine (powmod_any (((o_r106.numv a_r106 V_r106.out l_r106).below hb17).below hb18) ((o_r111.num l_r111).below hb18) (o_r113.numv a_r113 V_r113.out l_r113) HY.out (by omega) (by omega) (by omega)).mono ?_
  rintro e w19 ⟨A_r114, n_r114, c_r114, rfl, o_r114, hb19, l_r114⟩
  go_wp2_with fail
  refine (sameT_yes o_r114.rd ((((o_r101.rd.below hb16).below hb17).below hb18).below hb19) rfl (by omega)).mono ?_
  rintro e w20 ⟨rfl, hb20⟩
  go_wp2_with fail
  refine (copyN_any (((((((((((((((((((((((H.out.below ((Below.refl _ _).alloc (Nat.le_refl _) _)).below ((Below.refl _ _).alloc (Nat.le_refl _) _)).below (Below.refl _ _).drew).below hb1).below ((Below.refl _ _).alloc (Nat.le_refl _) _)).below hbz).below hb4).below hb5).below hb6).below hb7).below hb8).below hb9).below hb10).below hb11).below hb12).below hb13).below hb14).below hb15).below hb16).below hb17).below hb18).below hb19).below hb20) (by omega)).mono ?_
  rintro e w21 ⟨A_r136, n_r136, c_r136, xs_r136, rfl, o_r136, a_r136, v_r136, hb21, l_r136⟩
  have V_r136 := Lib.hid v_r136
  clear v_r136
  go_wp2_with fail
  refine (ddigits_any (b := 2 + M * N) (o_r136.numv a_r136 V_r136.out l_r136) (by push_cast; rfl) (by omega) (by have := HP.out; rw [W_eq]; omega) (by omega)).mono ?_
  rintro e w22 ⟨A_r138, n_r138, c_r138, rfl, o_r138, hb22⟩
  have hln : n_r138 ≤ 2560 := by have := o_r138.len; have := HDL.out; omega
  have HR := Lib.hid o_r138.rd
  go_wp2_with (at_builtin; (refine wpList_app rfl (.tmp 142) (.tmp 143) rfl HE.out (t := 26) (k := .u64) (B := w22.heap.size) (xs := []) rfl rfl (Own.lit0 _ (Nat.le_refl _)) (HR.out.alloc _) (by omega) (by simp) ?_); intro B1 e1 ws hoq hbq _ _)
  have C5 := Lib.hid (undigits_any (b := 2 + M * N) hoq.rd HD.out.1 (by omega) (by have := HP.out; rw [W_eq]; omega) (by omega))
  rw [List.nil_append, HD.out.2, show ((2 + M * N : Nat) : Int) = 2 + (M : Int) * (N : Int) by push_cast; rfl, Nat.zero_add] at C5
  go_wp2_with fail
  refine (C5.out).mono ?_
  rintro e w23 ⟨A_r146, n_r146, c_r146, rfl, o_r146, hb23, l_r146⟩
  go_wp2_with fail
  refine (copyN_any (((((((((((((((((((((((((((H.out.below ((Below.refl _ _).alloc (Nat.le_refl _) _)).below ((Below.refl _ _).alloc (Nat.le_refl _) _)).below (Below.refl _ _).drew).below hb1).below ((Below.refl _ _).alloc (Nat.le_refl _) _)).below hbz).below hb4).below hb5).below hb6).below hb7).below hb8).below hb9).below hb10).below hb11).below hb12).below hb13).below hb14).below hb15).below hb16).below hb17).below hb18).below hb19).below hb20).below hb21).below hb22).below ((belowA _ _).trans hbq)).below hb23) (by omega)).mono ?_
  rintro e w24 ⟨A_r158, n_r158, c_r158, xs_r158, rfl, o_r158, a_r158, v_r158, hb24, l_r158⟩
  have V_r158 := Lib.hid v_r158
  clear v_r158
  go_wp2_with fail
  refine (nnorm_any (o_r158.numv a_r158 V_r158.out l_r158) (by omega)).mono ?_
  rintro e w25 ⟨A_r159, n_r159, c_r159, rfl, o_r159, hb25, l_r159⟩
  go_wp2_with fail
  refine (sameT_yes ((o_r146.rd.below hb24).below hb25) o_r159.rd rfl (by omega)).mono ?_
  rintro e w26 ⟨rfl, hb26⟩
  have HR2 := Lib.hid (((((o_r138.rd.below ((belowA _ _).trans hbq)).below hb23).below hb24).below hb25).below hb26)
  have HB2 := Lib.hid (bt (bt (bt (bt (bt (bt (bt (bt (bt (bt (bt (bt (bt (bt (bt (bt (bt (bt (bt (bt (bt (bt (bt (bt (bt (bt (bt (bt (bt ((Below.refl _ _).alloc (Nat.le_refl _) _) ((Below.refl _ _).alloc (Nat.le_refl _) _)) (Below.refl _ _).drew) hb1) ((Below.refl _ _).alloc (Nat.le_refl _) _)) hbz) hb4) hb5) hb6) hb7) hb8) hb9) hb10) hb11) hb12) hb13) hb14) hb15) hb16) hb17) hb18) hb19) hb20) hb21) hb22) ((belowA _ _).trans hbq)) hb23) hb24) hb25) hb26)
  clear HR C5
  go_wp2
  go_loop [165] (fun i => ∃ k : Nat, k ≤ n_r138 ∧ i = .int .i64 (k : Int)) (fun i => n_r138 - (intOf i).toNat)
  case atStart => exact ⟨0, Nat.zero_le _, rfl⟩
  case round =>
    obtain ⟨k, hk, rfl⟩ := hrel
    by_cases hlt : k < n_r138
    · obtain ⟨bb, off, ea, hbb, hca⟩ := HR2.out.at hlt
      subst ea
      have hd := HD.out.1.nth (by omega) k
      have q1 : ¬ (2 + (M : Int) * (N : Int) ≤ ((nth (dg (2 + M * N) x) k : Nat) : Int)) := by
        have : ((nth (dg (2 + M * N) x) k : Nat) : Int) < ((2 + M * N : Nat) : Int) := by omega
        rw [show ((2 + M * N : Nat) : Int) = 2 + (M : Int) * (N : Int) by push_cast; rfl] at this
        omega
      have q2 : decide (2 + (M : Int) * (N : Int) ≤ ((nth (dg (2 + M * N) x) k : Nat) : Int)) = false := by simpa using q1
      have q3 : ((nth (dg (2 + M * N) x) k : Nat) : Int) < 2 + (M : Int) * (N : Int) := by omega
      generalize nth (dg (2 + M * N) x) k = dd at *
      clear hd
      go_wp2
      go_round
      case rel => exact ⟨k + 1, by omega, by go_num⟩
      case measure => simp [intOf]; omega
    · obtain rfl : k = n_r138 := by omega
      go_wp2
      go_ret
      exact ⟨rfl, HB2.out⟩
set_option maxHeartbeats 8000000 in
set_option maxRecDepth 100000 in
theorem surdPowers_4 {A : Option Addr} {n c x y K : Nat} {xs : List Nat} {u : Value} {z1 z2 : Int} {w : World} (hr : Rd .u64 w A n c xs) (ha : All W xs) (hx : val W (xs.take 40) = x) (h' : Num w u y K) (hn : 40 < n) (hn2 : n ≤ 1048576) (hK : K ≤ 1048576) (hy0 : y = 0) :
    Calls Try.prog 4 #[.slice A n c, u, .agg #[.int .i64 z1, .int .i64 z2]] w (Keeps (.bool true) w) := by
  have H := Lib.hid (show Num w (.slice A 40 c) x 40 from ⟨A, 40, c, xs.take 40, rfl, hr.upto (by omega), ha.take 40, hx, Nat.le_refl _⟩)
  have hcap : n ≤ c := hr.cap
  have H' := Lib.hid h'
  have HY := Lib.hid hy0
  have HE := Lib.hid elW
  obtain ⟨_, _, _, _, rfl, _⟩ := id h'
  clear hr ha hx h' hy0
  have EQ1 := Lib.hid two64S
  obtain ⟨M, eM, hM⟩ := clampI_nat z1
  obtain ⟨N, eN, hN⟩ := clampI_nat z2
  have EQ2 : Hid (dg W (x ^ M * x ^ N) = dg W (x ^ (M + N))) := by show _ = _; rw [Nat.pow_add]
  have hP : M * N ≤ 144 := Nat.mul_le_mul hM hN
  have i1 : (M : Int) * (N : Int) ≤ 144 := by
    have : ((M * N : Nat) : Int) ≤ 144 := by omega
    simpa [Int.natCast_mul] using this
  have i2 : 0 ≤ (M : Int) * (N : Int) := by
    have : (0 : Int) ≤ ((M * N : Nat) : Int) := by omega
    simpa [Int.natCast_mul] using this
  have P1 : Hid (40 * M ≤ 480 ∧ 40 * N ≤ 480 ∧ 40 * (M + N) ≤ 960) := by show _ ∧ _ ∧ _; omega
  have HP := Lib.hid hP
  have HD : Hid (All (2 + M * N) (dg (2 + M * N) x) ∧ val (2 + M * N) (dg (2 + M * N) x) = x) := ⟨dg_all (by omega) x, dg_val (by omega) x⟩
  have HDL : Hid ((dg (2 + M * N) x).length ≤ 64 * 40) := by
    have hx := H.out.lt
    exact dg_len64 (by omega) hx
  have CI := Lib.hid (fun w => clamp_any (n := z1) (lo := 0) (hi := 12) (w := w))
  have CJ := Lib.hid (fun w => clamp_any (n := z2) (lo := 0) (hi := 12) (w := w))
  rw [eM] at CI
  rw [eN] at CJ
  clear eM eN hP
  go_enter Try.func4, Try.ntmps4
  go_wp2_with fail
  have e_f0 := (At.box (i := 0) (t := 37) w #[.int .i64 z1, .int .i64 z2] rfl).1
  have g_f0 := At.grow (At.box (i := 0) (t := 37) w #[.int .i64 z1, .int .i64 z2] rfl)
  have e_f1 := (At.box (i := 1) (t := 37) w #[.int .i64 z1, .int .i64 z2] rfl).1
  have g_f1 := At.grow (At.box (i := 1) (t := 37) w #[.int .i64 z1, .int .i64 z2] rfl)
  refine wp_region_grow none [(true, 0), (true, 1), (true, 2), (true, 3), (true, 4), (true, 5)] (by kernel_rfl) (by kernel_rfl) ?_
  repeat (refine ord_pas (by rfl) (fun K hK => ?_); go_simp; refine hK _ _ (fun w' hw' => (by first | (go_simp; done) | (go_simp; intro hh; cases hh))) ?_; clear hK K)
  repeat (refine ord_pas (by rfl) (fun K hK => ?_); go_simp; refine hK _ _ (fun w' hw' => (by first | (go_simp; done) | (go_simp; intro hh; cases hh))) ?_; clear hK K)
  refine ord_nil ?_
  clear g_f0 e_f0 g_f1 e_f1
  go_wp2_with fail
  refine (pow_any (((Num.lit (t := 26) _ [2] (by simp) (by simp [W_eq, All])).mono (L' := 1) (by simp)).below (Below.refl _ _).drew) (N := 64) rfl (by omega) (by simp) (by simp)).mono ?_
  rintro e w1 ⟨A_r31, n_r31, c_r31, rfl, o_r31, hb1, l_r31⟩
  rw [EQ1.out] at o_r31
  go_wp2_with fail
  refine (sameT_yes (o_r31.rd.alloc _) (Rd.litn (k := .u64) (t := 26) _ [0, 1] rfl (by decide)) rfl (by omega)).mono ?_
  rintro e wz ⟨rfl, hbz⟩
  go_wp2_with fail
  refine (CI.out _).mono ?_
  rintro e w' ⟨rfl, rfl⟩
  go_wp2_with fail
  refine (CJ.out _).mono ?_
  rintro e w' ⟨rfl, rfl⟩
  have d40 : decide ((40 : Int) < (n : Int)) = true := by simp; omega
  go_wp2_with fail
  refine (copyN_any ((((((H.out.below ((Below.refl _ _).alloc (Nat.le_refl _) _)).below ((Below.refl _ _).alloc (Nat.le_refl _) _)).below (Below.refl _ _).drew).below hb1).below ((Below.refl _ _).alloc (Nat.le_refl _) _)).below hbz) (by omega)).mono ?_
  rintro e w4 ⟨A_r53, n_r53, c_r53, xs_r53, rfl, o_r53, a_r53, v_r53, hb4, l_r53⟩
  have V_r53 := Lib.hid v_r53
  clear v_r53
  go_wp2_with fail
  refine (pow_any (o_r53.numv a_r53 V_r53.out l_r53) (N := M) rfl (by omega) (by omega) (by have := P1.out; omega)).mono ?_
  rintro e w5 ⟨A_r55, n_r55, c_r55, rfl, o_r55, hb5, l_r55⟩
  go_wp2_with fail
  refine (copyN_any ((((((((H.out.below ((Below.refl _ _).alloc (Nat.le_refl _) _)).below ((Below.refl _ _).alloc (Nat.le_refl _) _)).below (Below.refl _ _).drew).below hb1).below ((Below.refl _ _).alloc (Nat.le_refl _) _)).below hbz).below hb4).below hb5) (by omega)).mono ?_
  rintro e w6 ⟨A_r60, n_r60, c_r60, xs_r60, rfl, o_r60, a_r60, v_r60, hb6, l_r60⟩
  have V_r60 := Lib.hid v_r60
  clear v_r60
  go_wp2_with fail
  refine (pow_any (o_r60.numv a_r60 V_r60.out l_r60) (N := N) rfl (by omega) (by omega) (by have := P1.out; omega)).mono ?_
  rintro e w7 ⟨A_r62, n_r62, c_r62, rfl, o_r62, hb7, l_r62⟩
  go_wp2_with fail
  refine (copyN_any ((((((((((H.out.below ((Below.refl _ _).alloc (Nat.le_refl _) _)).below ((Below.refl _ _).alloc (Nat.le_refl _) _)).below (Below.refl _ _).drew).below hb1).below ((Below.refl _ _).alloc (Nat.le_refl _) _)).below hbz).below hb4).below hb5).below hb6).below hb7) (by omega)).mono ?_
  rintro e w8 ⟨A_r67, n_r67, c_r67, xs_r67, rfl, o_r67, a_r67, v_r67, hb8, l_r67⟩
  have V_r67 := Lib.hid v_r67
  clear v_r67
  go_wp2_with fail
  refine (pow_any (o_r67.numv a_r67 V_r67.out l_r67) (N := M + N) (by omega) (by omega) (by omega) (by have := P1.out; omega)).mono ?_
  rintro e w9 ⟨A_r71, n_r71, c_r71, rfl, o_r71, hb9, l_r71⟩
  go_wp2_with fail
  refine (mul_any (((((o_r55.num l_r55).below hb6).below hb7).below hb8).below hb9) (((o_r62.num l_r62).below hb8).below hb9) (by have := P1.out; omega) (by have := P1.out; omega)).mono ?_
  rintro e w10 ⟨A_r87, n_r87, c_r87, rfl, o_r87, hb10, l_r87⟩
  go_wp2_with fail
  refine (sameT_yes o_r87.rd (o_r71.rd.below hb10) EQ2.out (by have := P1.out; omega)).mono ?_
  rintro e w11 ⟨rfl, hb11⟩
  go_wp2_with fail
  refine (copyN_any ((((((((((((((H'.out.below ((Below.refl _ _).alloc (Nat.le_refl _) _)).below ((Below.refl _ _).alloc (Nat.le_refl _) _)).below (Below.refl _ _).drew).below hb1).below ((Below.refl _ _).alloc (Nat.le_refl _) _)).below hbz).below hb4).below hb5).below hb6).below hb7).below hb8).below hb9).below hb10).below hb11) (by omega)).mono ?_
  rintro e w12 ⟨A_r93, n_r93, c_r93, xs_r93, rfl, o_r93, a_r93, v_r93, hb12, l_r93⟩
  have V_r93 := Lib.hid v_r93
  clear v_r93
  go_wp2_with fail
  refine (nnorm_any (o_r93.numv a_r93 V_r93.out l_r93) (by omega)).mono ?_
  rintro e w13 ⟨A_r94, n_r94, c_r94, rfl, o_r94, hb13, l_r94⟩
  obtain rfl := len_zero o_r94 HY.out
  go_wp2_with fail
  refine (copyN_any ((((((((((((((((H.out.below ((Below.refl _ _).alloc (Nat.le_refl _) _)).below ((Below.refl _ _).alloc (Nat.le_refl _) _)).below (Below.refl _ _).drew).below hb1).below ((Below.refl _ _).alloc (Nat.le_refl _) _)).below hbz).below hb4).below hb5).below hb6).below hb7).below hb8).below hb9).below hb10).below hb11).below hb12).below hb13) (by omega)).mono ?_
  rintro e w14 ⟨A_r136, n_r136, c_r136, xs_r136, rfl, o_r136, a_r136, v_r136, hb14, l_r136⟩
  have V_r136 := Lib.hid v_r136
  clear v_r136
  go_wp2_with fail
  refine (ddigits_any (b := 2 + M * N) (o_r136.numv a_r136 V_r136.out l_r136) (by push_cast; rfl) (by omega) (by have := HP.out; rw [W_eq]; omega) (by omega)).mono ?_
  rintro e w15 ⟨A_r138, n_r138, c_r138, rfl, o_r138, hb15⟩
  have hln : n_r138 ≤ 2560 := by have := o_r138.len; have := HDL.out; omega
  have HR := Lib.hid o_r138.rd
  go_wp2_with (at_builtin; (refine wpList_app rfl (.tmp 142) (.tmp 143) rfl HE.out (t := 26) (k := .u64) (B := w15.heap.size) (xs := []) rfl rfl (Own.lit0 _ (Nat.le_refl _)) (HR.out.alloc _) (by omega) (by simp) ?_); intro B1 e1 ws hoq hbq _ _)
  have C5 := Lib.hid (undigits_any (b := 2 + M * N) hoq.rd HD.out.1 (by omega) (by have := HP.out; rw [W_eq]; omega) (by omega))
  rw [List.nil_append, HD.out.2, show ((2 + M * N : Nat) : Int) = 2 + (M : Int) * (N : Int) by push_cast; rfl, Nat.zero_add] at C5
  go_wp2_with fail
  refine (C5.out).mono ?_
  rintro e w16 ⟨A_r146, n_r146, c_r146, rfl, o_r146, hb16, l_r146⟩
  go_wp2_with fail
  refine (copyN_any ((((((((((((((((((((H.out.below ((Below.refl _ _).alloc (Nat.le_refl _) _)).below ((Below.refl _ _).alloc (Nat.le_refl _) _)).below (Below.refl _ _).drew).below hb1).below ((Below.refl _ _).alloc (Nat.le_refl _) _)).below hbz).below hb4).below hb5).below hb6).below hb7).below hb8).below hb9).below hb10).below hb11).below hb12).below hb13).below hb14).below hb15).below ((belowA _ _).trans hbq)).below hb16) (by omega)).mono ?_
  rintro e w17 ⟨A_r158, n_r158, c_r158, xs_r158, rfl, o_r158, a_r158, v_r158, hb17, l_r158⟩
  have V_r158 := Lib.hid v_r158
  clear v_r158
  go_wp2_with fail
  refine (nnorm_any (o_r158.numv a_r158 V_r158.out l_r158) (by omega)).mono ?_
  rintro e w18 ⟨A_r159, n_r159, c_r159, rfl, o_r159, hb18, l_r159⟩
  go_wp2_with fail
  refine (sameT_yes ((o_r146.rd.below hb17).below hb18) o_r159.rd rfl (by omega)).mono ?_
  rintro e w19 ⟨rfl, hb19⟩
  have HR2 := Lib.hid (((((o_r138.rd.below ((belowA _ _).trans hbq)).below hb16).below hb17).below hb18).below hb19)
  have HB2 := Lib.hid (bt (bt (bt (bt (bt (bt (bt (bt (bt (bt (bt (bt (bt (bt (bt (bt (bt (bt (bt (bt (bt (bt ((Below.refl _ _).alloc (Nat.le_refl _) _) ((Below.refl _ _).alloc (Nat.le_refl _) _)) (Below.refl _ _).drew) hb1) ((Below.refl _ _).alloc (Nat.le_refl _) _)) hbz) hb4) hb5) hb6) hb7) hb8) hb9) hb10) hb11) hb12) hb13) hb14) hb15) ((belowA _ _).trans hbq)) hb16) hb17) hb18) hb19)
  clear HR C5
  go_wp2
  go_loop [165] (fun i => ∃ k : Nat, k ≤ n_r138 ∧ i = .int .i64 (k : Int)) (fun i => n_r138 - (intOf i).toNat)
  case atStart => exact ⟨0, Nat.zero_le _, rfl⟩
  case round =>
    obtain ⟨k, hk, rfl⟩ := hrel
    by_cases hlt : k < n_r138
    · obtain ⟨bb, off, ea, hbb, hca⟩ := HR2.out.at hlt
      subst ea
      have hd := HD.out.1.nth (by omega) k
      have q1 : ¬ (2 + (M : Int) * (N : Int) ≤ ((nth (dg (2 + M * N) x) k : Nat) : Int)) := by
        have : ((nth (dg (2 + M * N) x) k : Nat) : Int) < ((2 + M * N : Nat) : Int) := by omega
        rw [show ((2 + M * N : Nat) : Int) = 2 + (M : Int) * (N : Int) by push_cast; rfl] at this
        omega
      have q2 : decide (2 + (M : Int) * (N : Int) ≤ ((nth (dg (2 + M * N) x) k : Nat) : Int)) = false := by simpa using q1
      have q3 : ((nth (dg (2 + M * N) x) k : Nat) : Int) < 2 + (M : Int) * (N : Int) := by omega
      generalize nth (dg (2 + M * N) x) k = dd at *
      clear hd
      go_wp2
      go_round
      case rel => exact ⟨k + 1, by omega, by go_num⟩
      case measure => simp [intOf]; omega
    · obtain rfl : k = n_r138 := by omega
      go_wp2
      go_ret
      exact ⟨rfl, HB2.out⟩
theorem surdPowers_any {A : Option Addr} {n c y K : Nat} {xs : List Nat} {u : Value} {z1 z2 : Int} {w : World} (hr : Rd .u64 w A n c xs) (ha : All W xs) (h' : Num w u y K) (hn2 : n ≤ 1048576) (hK : K ≤ 1048576) :
    Calls Try.prog 4 #[.slice A n c, u, .agg #[.int .i64 z1, .int .i64 z2]] w (Keeps (.bool true) w) := by
  by_cases hn : n ≤ 40
  · rcases Nat.eq_zero_or_pos y with h0 | h0
    · exact surdPowers_2 hr ha rfl h' hn hn2 hK h0
    · exact surdPowers_1 hr ha rfl h' hn hn2 hK h0
  · rcases Nat.eq_zero_or_pos y with h0 | h0
    · exact surdPowers_4 hr ha rfl h' (by omega) hn2 hK h0
    · exact surdPowers_3 hr ha rfl h' (by omega) hn2 hK h0
end Go.Proofs.Ytnmfmdilhepmjaa
