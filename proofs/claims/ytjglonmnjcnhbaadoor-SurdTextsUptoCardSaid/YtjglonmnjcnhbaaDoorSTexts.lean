/-
  SurdTexts.
-/
import Derived.Test.YtjglonmnjcnhbaaDoorRadT
import Derived.Test.YtjglonmnjcnhbaaDoorIntR
import Derived.Test.YtjglonmnjcnhbaaDoorTopA
namespace Go.Proofs.YtjglonmnjcnhbaaDoor
open Go.RowKit
set_option linter.unusedVariables false

theorem txt_264 : txt 10 (val W [0, 1]) = ⟨#[49, 56, 52, 52, 54, 55, 52, 52, 48, 55, 51, 55, 48, 57, 53, 53, 49, 54, 49, 54]⟩ := by
  have e : dg 10 (val W [0, 1]) = [6, 1, 6, 1, 5, 5, 9, 0, 7, 3, 7, 0, 4, 4, 7, 6, 4, 4, 8, 1] := by
    have := norm_dg (b := 10) (xs := [6, 1, 6, 1, 5, 5, 9, 0, 7, 3, 7, 0, 4, 4, 7, 6, 4, 4, 8, 1]) (by omega) (by simp [All]) (by simp [Norm, strip])
    rw [this]
    simp [val, W_eq]
  rw [txt, txtl, if_neg (by simp [val, W_eq]), e]
  rfl
theorem rformat_264 {v : Value} {w : World} {L : Nat} (h : Num w v (val W [0, 1]) L) (hs : SG w) (hL : L ≤ 16777216) :
    Calls Tryd.prog 18 #[v] w (Keeps (.string ⟨#[49, 56, 52, 52, 54, 55, 52, 52, 48, 55, 51, 55, 48, 57, 53, 53, 49, 54, 49, 54]⟩) w) := by
  have := rformat_any h hs hL
  rwa [txt_264] at this
theorem clampI_base (z : Int) : ∃ M : Nat, clampI z 2 36 = (M : Int) ∧ 2 ≤ M ∧ M ≤ 36 := by
  refine ⟨(clampI z 2 36).toNat, ?_, ?_, ?_⟩ <;> · unfold clampI; split <;> (try split) <;> omega
set_option maxHeartbeats 8000000 in
set_option maxRecDepth 100000 in
theorem surdTexts_any {v : Value} {x L : Nat} {z : Int} {s : ByteArray} {w : World} (h : Num w v x L) (hs : SG w) (hL1 : 1 ≤ L) (hL : L ≤ 1048576) (hsz : s.size ≤ 1048576) :
    Calls Tryd.prog 5 #[v, .int .i64 z, .string s] w (Keeps (.bool true) w) := by
  have H := Lib.hid h
  have HS := Lib.hid hs
  have HXL := Lib.hid h.lt
  have hts : (txt 10 x).size ≤ 67108864 := by have := txt_len (b := 10) (by omega) h.lt hL1; omega
  obtain ⟨bn, eb, B2, B36⟩ := clampI_base z
  have htb : (txt bn x).size ≤ 67108864 := by have := txt_len (b := bn) B2 h.lt hL1; omega
  have CI := Lib.hid (fun w => clamp_any (n := z) (lo := 2) (hi := 36) (w := w))
  rw [eb] at CI
  obtain ⟨_, _, _, _, rfl, _⟩ := id h
  clear h hs eb
  have HN := Lib.hid (nroot_spec (n := 2) (by omega) x)
  have EQR : Hid (dg W (nroot 2 x * nroot 2 x + (x - nroot 2 x * nroot 2 x)) = dg W x) := by
    show _ = _
    have := HN.out.1
    rw [Nat.pow_two] at this
    rw [Nat.add_sub_cancel' this]
  obtain ⟨zc, hzc⟩ : ∃ zc, zc = cmpN ((nroot 2 x + 1) * (nroot 2 x + 1)) x := ⟨_, rfl⟩
  have dzc : decide ((0 : Int) < zc) = true := by
    have := HN.out.2
    rw [Nat.pow_two] at this
    rw [hzc, cmpN, if_neg (by omega), if_pos this]; decide
  have CC : Hid (∀ (w : World) (v u : Value) (L M : Nat), Num w v ((nroot 2 x + 1) * (nroot 2 x + 1)) L → Num w u x M → L ≤ 67108864 → M ≤ 67108864 → Calls Tryd.prog 17 #[v, u] w (fun e w' => e = .returned (.int .i64 zc) ∧ w = w')) := fun w v u L M h1 h2 h3 h4 => by rw [hzc]; exact ncmp_any h1 h2 (by omega) (by omega)
  clear hzc
  go_enter Tryd.func5, Tryd.ntmps5
  go_wp2_with fail
  refine (rformat_264 ((Num.lit (t := 27) _ [0, 1] (by simp) (by simp [W_eq, All])).mono (L' := 2) (by simp)) (HS.out.below ((Below.refl _ _).alloc (Nat.le_refl _) _)) (by omega)).mono ?_
  rintro e w1 ⟨rfl, hb1⟩
  go_wp2_with fail
  refine (copyN_any ((H.out.below ((Below.refl _ _).alloc (Nat.le_refl _) _)).below hb1) (by omega)).mono ?_
  rintro e w2 ⟨A_r21, n_r21, c_r21, xs_r21, rfl, o_r21, a_r21, v_r21, hb2, l_r21⟩
  have V_r21 := Lib.hid v_r21
  clear v_r21
  go_wp2_with fail
  refine (rformat_any (o_r21.numv a_r21 V_r21.out l_r21) (((HS.out.below ((Below.refl _ _).alloc (Nat.le_refl _) _)).below hb1).below hb2) (by omega)).mono ?_
  rintro e w3 ⟨rfl, hb3⟩
  go_wp2_with fail
  refine (rparse_any ((((HS.out.below ((Below.refl _ _).alloc (Nat.le_refl _) _)).below hb1).below hb2).below hb3) (by omega)).mono ?_
  rintro e wp hp
  obtain ⟨A_n, n_n, c_n, rfl, o_n, hbn, l_n⟩ := hp.txt (by omega) (by omega) HXL.out
  clear hp
  go_wp2_with fail
  refine (copyN_any (((((H.out.below ((Below.refl _ _).alloc (Nat.le_refl _) _)).below hb1).below hb2).below hb3).below hbn) (by omega)).mono ?_
  rintro e w4 ⟨A_r31, n_r31, c_r31, xs_r31, rfl, o_r31, a_r31, v_r31, hb4, l_r31⟩
  have V_r31 := Lib.hid v_r31
  clear v_r31
  go_wp2_with fail
  refine (nnorm_any (o_r31.numv a_r31 V_r31.out l_r31) (by omega)).mono ?_
  rintro e w5 ⟨A_r32, n_r32, c_r32, rfl, o_r32, hb5, l_r32⟩
  go_wp2_with fail
  refine (sameT_yes ((o_n.rd.below hb4).below hb5) o_r32.rd rfl (by omega)).mono ?_
  rintro e w6 ⟨rfl, hb6⟩
  go_wp2_with fail
  refine (CI.out _).mono ?_
  rintro e w' ⟨rfl, rfl⟩
  go_wp2_with fail
  refine (copyN_any ((((((((H.out.below ((Below.refl _ _).alloc (Nat.le_refl _) _)).below hb1).below hb2).below hb3).below hbn).below hb4).below hb5).below hb6) (by omega)).mono ?_
  rintro e w8 ⟨A_r40, n_r40, c_r40, xs_r40, rfl, o_r40, a_r40, v_r40, hb8, l_r40⟩
  have V_r40 := Lib.hid v_r40
  clear v_r40
  go_wp2_with fail
  refine (rformatBase_any (b := bn) (o_r40.numv a_r40 V_r40.out l_r40) (((((((((HS.out.below ((Below.refl _ _).alloc (Nat.le_refl _) _)).below hb1).below hb2).below hb3).below hbn).below hb4).below hb5).below hb6).below hb8) rfl B2 B36 (by omega)).mono ?_
  rintro e w9 ⟨rfl, hb9⟩
  go_wp2_with fail
  refine (rparseBase_any (b := bn) ((((((((((HS.out.below ((Below.refl _ _).alloc (Nat.le_refl _) _)).below hb1).below hb2).below hb3).below hbn).below hb4).below hb5).below hb6).below hb8).below hb9) rfl B2 B36 (by omega)).mono ?_
  rintro e wt ht
  obtain ⟨A_m, n_m, c_m, rfl, o_m, hbm, l_m⟩ := ht.txt B2 B36 HXL.out
  clear ht
  go_wp2_with fail
  refine (sameT_yes o_m.rd ((((((o_n.rd.below hb4).below hb5).below hb6).below hb8).below hb9).below hbm) rfl (by omega)).mono ?_
  rintro e w10 ⟨rfl, hb10⟩
  go_wp2_with fail
  refine (rparse_any (s := s) ((((((((((((HS.out.below ((Below.refl _ _).alloc (Nat.le_refl _) _)).below hb1).below hb2).below hb3).below hbn).below hb4).below hb5).below hb6).below hb8).below hb9).below hbm).below hb10) (by omega)).mono ?_
  rintro e wq hq
  rcases hq.cases with ⟨hok, A_q, n_q, c_q, rfl, o_q, hbq, l_q⟩ | ⟨rfl, hbq⟩
  · have TB := Lib.hid (txt_back (by omega) (by omega) hok)
    clear hq hok
    have CF := Lib.hid (rformat_any (w := wq) (o_q.num (L := 1048576) (by omega)) (((((((((((((HS.out.below ((Below.refl _ _).alloc (Nat.le_refl _) _)).below hb1).below hb2).below hb3).below hbn).below hb4).below hb5).below hb6).below hb8).below hb9).below hbm).below hb10).below hbq) (by omega))
    rw [TB.out] at CF
    go_wp2_with fail
    refine (CF.out).mono ?_
    rintro e w11 ⟨rfl, hb11⟩
    go_wp2_with fail
    refine (copyN_any ((((((((((((((H.out.below ((Below.refl _ _).alloc (Nat.le_refl _) _)).below hb1).below hb2).below hb3).below hbn).below hb4).below hb5).below hb6).below hb8).below hb9).below hbm).below hb10).below hbq).below hb11) (by omega)).mono ?_
    rintro e w12 ⟨A_r78, n_r78, c_r78, xs_r78, rfl, o_r78, a_r78, v_r78, hb12, l_r78⟩
    have V_r78 := Lib.hid v_r78
    clear v_r78
    go_wp2_with fail
    refine (gsqrt_any (o_r78.numv a_r78 V_r78.out l_r78) (by omega)).mono ?_
    rintro e w13 ⟨A_r, n_r, c_r, A_t, n_t, c_t, rfl, o_r, o_t, hb13, l_r, l_t⟩
    go_wp2_with fail
    refine (copyN_any (o_r.num l_r) (by omega)).mono ?_
    rintro e w14 ⟨A_r83, n_r83, c_r83, xs_r83, rfl, o_r83, a_r83, v_r83, hb14, l_r83⟩
    have V_r83 := Lib.hid v_r83
    clear v_r83
    go_wp2_with fail
    refine (oneT_any).mono ?_
    rintro e w15 ⟨A_r84, n_r84, c_r84, xs_r84, rfl, o_r84, a_r84, v_r84, hb15, l_r84⟩
    have V_r84 := Lib.hid v_r84
    clear v_r84
    go_wp2_with fail
    refine (nadd_any ((o_r83.numv a_r83 V_r83.out l_r83).below hb15) (o_r84.numv a_r84 V_r84.out l_r84) (by omega) (by omega)).mono ?_
    rintro e w16 ⟨A_r85, n_r85, c_r85, rfl, o_r85, hb16, l_r85⟩
    go_wp2_with fail
    refine (square_any (o_r85.num l_r85) (by omega)).mono ?_
    rintro e w17 ⟨A_r86, n_r86, c_r86, rfl, o_r86, hb17, l_r86⟩
    go_wp2_with fail
    refine (copyN_any (((((o_r.num l_r).below hb14).below hb15).below hb16).below hb17) (by omega)).mono ?_
    rintro e w18 ⟨A_r88, n_r88, c_r88, xs_r88, rfl, o_r88, a_r88, v_r88, hb18, l_r88⟩
    have V_r88 := Lib.hid v_r88
    clear v_r88
    go_wp2_with fail
    refine (square_any (o_r88.numv a_r88 V_r88.out l_r88) (by omega)).mono ?_
    rintro e w19 ⟨A_r89, n_r89, c_r89, rfl, o_r89, hb19, l_r89⟩
    go_wp2_with fail
    refine (nadd_any (o_r89.num l_r89) (((((((o_t.num l_t).below hb14).below hb15).below hb16).below hb17).below hb18).below hb19) (by omega) (by omega)).mono ?_
    rintro e w20 ⟨A_r91, n_r91, c_r91, rfl, o_r91, hb20, l_r91⟩
    go_wp2_with fail
    refine (sameT_yes o_r91.rd ((((((((((((((((((o_n.rd.below hb4).below hb5).below hb6).below hb8).below hb9).below hbm).below hb10).below hbq).below hb11).below hb12).below hb13).below hb14).below hb15).below hb16).below hb17).below hb18).below hb19).below hb20) EQR.out (by omega)).mono ?_
    rintro e w21 ⟨rfl, hb21⟩
    go_wp2_with fail
    refine (CC.out _ _ _ _ _ (((((o_r86.num l_r86).below hb18).below hb19).below hb20).below hb21) (((((((((((((((((((((o_n).num l_n).below hb4).below hb5).below hb6).below hb8).below hb9).below hbm).below hb10).below hbq).below hb11).below hb12).below hb13).below hb14).below hb15).below hb16).below hb17).below hb18).below hb19).below hb20).below hb21) (by omega) (by omega)).mono ?_
    rintro e w' ⟨rfl, rfl⟩
    have HEND := Lib.hid (bt (bt (bt (bt (bt (bt (bt (bt (bt (bt (bt (bt (bt (bt (bt (bt (bt (bt (bt (bt (bt (bt (bt ((Below.refl _ _).alloc (Nat.le_refl _) _) hb1) hb2) hb3) hbn) hb4) hb5) hb6) hb8) hb9) hbm) hb10) hbq) hb11) hb12) hb13) hb14) hb15) hb16) hb17) hb18) hb19) hb20) hb21)
    go_wp2
    go_ret
    exact ⟨by simp, HEND.out⟩
  · clear hq
    go_wp2_with fail
    refine (copyN_any (((((((((((((H.out.below ((Below.refl _ _).alloc (Nat.le_refl _) _)).below hb1).below hb2).below hb3).below hbn).below hb4).below hb5).below hb6).below hb8).below hb9).below hbm).below hb10).below hbq) (by omega)).mono ?_
    rintro e w22 ⟨A_r78, n_r78, c_r78, xs_r78, rfl, o_r78, a_r78, v_r78, hb22, l_r78⟩
    have V_r78 := Lib.hid v_r78
    clear v_r78
    go_wp2_with fail
    refine (gsqrt_any (o_r78.numv a_r78 V_r78.out l_r78) (by omega)).mono ?_
    rintro e w23 ⟨A_r, n_r, c_r, A_t, n_t, c_t, rfl, o_r, o_t, hb23, l_r, l_t⟩
    go_wp2_with fail
    refine (copyN_any (o_r.num l_r) (by omega)).mono ?_
    rintro e w24 ⟨A_r83, n_r83, c_r83, xs_r83, rfl, o_r83, a_r83, v_r83, hb24, l_r83⟩
    have V_r83 := Lib.hid v_r83
    clear v_r83
    go_wp2_with fail
    refine (oneT_any).mono ?_
    rintro e w25 ⟨A_r84, n_r84, c_r84, xs_r84, rfl, o_r84, a_r84, v_r84, hb25, l_r84⟩
    have V_r84 := Lib.hid v_r84
    clear v_r84
    go_wp2_with fail
    refine (nadd_any ((o_r83.numv a_r83 V_r83.out l_r83).below hb25) (o_r84.numv a_r84 V_r84.out l_r84) (by omega) (by omega)).mono ?_
    rintro e w26 ⟨A_r85, n_r85, c_r85, rfl, o_r85, hb26, l_r85⟩
    go_wp2_with fail
    refine (square_any (o_r85.num l_r85) (by omega)).mono ?_
    rintro e w27 ⟨A_r86, n_r86, c_r86, rfl, o_r86, hb27, l_r86⟩
    go_wp2_with fail
    refine (copyN_any (((((o_r.num l_r).below hb24).below hb25).below hb26).below hb27) (by omega)).mono ?_
    rintro e w28 ⟨A_r88, n_r88, c_r88, xs_r88, rfl, o_r88, a_r88, v_r88, hb28, l_r88⟩
    have V_r88 := Lib.hid v_r88
    clear v_r88
    go_wp2_with fail
    refine (square_any (o_r88.numv a_r88 V_r88.out l_r88) (by omega)).mono ?_
    rintro e w29 ⟨A_r89, n_r89, c_r89, rfl, o_r89, hb29, l_r89⟩
    go_wp2_with fail
    refine (nadd_any (o_r89.num l_r89) (((((((o_t.num l_t).below hb24).below hb25).below hb26).below hb27).below hb28).below hb29) (by omega) (by omega)).mono ?_
    rintro e w30 ⟨A_r91, n_r91, c_r91, rfl, o_r91, hb30, l_r91⟩
    go_wp2_with fail
    refine (sameT_yes o_r91.rd (((((((((((((((((o_n.rd.below hb4).below hb5).below hb6).below hb8).below hb9).below hbm).below hb10).below hbq).below hb22).below hb23).below hb24).below hb25).below hb26).below hb27).below hb28).below hb29).below hb30) EQR.out (by omega)).mono ?_
    rintro e w31 ⟨rfl, hb31⟩
    go_wp2_with fail
    refine (CC.out _ _ _ _ _ (((((o_r86.num l_r86).below hb28).below hb29).below hb30).below hb31) ((((((((((((((((((((o_n).num l_n).below hb4).below hb5).below hb6).below hb8).below hb9).below hbm).below hb10).below hbq).below hb22).below hb23).below hb24).below hb25).below hb26).below hb27).below hb28).below hb29).below hb30).below hb31) (by omega) (by omega)).mono ?_
    rintro e w' ⟨rfl, rfl⟩
    have HEND := Lib.hid (bt (bt (bt (bt (bt (bt (bt (bt (bt (bt (bt (bt (bt (bt (bt (bt (bt (bt (bt (bt (bt (bt ((Below.refl _ _).alloc (Nat.le_refl _) _) hb1) hb2) hb3) hbn) hb4) hb5) hb6) hb8) hb9) hbm) hb10) hbq) hb22) hb23) hb24) hb25) hb26) hb27) hb28) hb29) hb30) hb31)
    go_wp2
    go_ret
    exact ⟨by simp, HEND.out⟩
end Go.Proofs.YtjglonmnjcnhbaaDoor
