/-
  LimbBack, way 2 of 4: c < x, ¬ val W xs = 0.
-/
import Derived.Test.YtgiecdokjmcogaaDoorBackM
namespace Go.Proofs.YtgiecdokjmcogaaDoor
open Go.RowKit
set_option linter.unusedVariables false

set_option maxHeartbeats 16000000 in
set_option maxRecDepth 100000 in
theorem limbBack_2 {x y z c n ca m cb : Nat} {N : Int} {A B : Option Addr} {xs ys : List Nat} {w : World} (ht : TZ w) (h : Rd .u64 w A n ca xs) (h' : Rd .u64 w B m cb ys) (ha : All W xs) (hb : All W ys) (hx : x < W) (hc : c < W) (hn : n ≤ 1048576) (hm : m ≤ 1048576) (HCX : Hid (c < x)) (HX0 : Hid (¬ val W xs = 0)) :
    Calls Tryd.prog 4 #[.agg #[.int .u64 (x : Int), .int .u64 (y : Int), .int .u64 (z : Int), .int .u64 (c : Int), .slice A n ca, .slice B m cb, .int .i64 N]] w (Keeps (.bool true) w) := by
  obtain ⟨S, cs, lS, aS, bS, vS, P1⟩ := add_pack ha hb h.len h'.len (by omega) (by omega)
  obtain ⟨PR, tp, lPR, aPR, bPR, vPR, P3⟩ := mad_pack ha h.len hx hc (by omega)
  have HP1 := Lib.hid P1
  have HP3 := Lib.hid P3
  have E0 : Hid (cmpN (val W xs) (val W xs) = 0) := by show _ = _; rw [cmpN, if_neg (Nat.lt_irrefl _), if_neg (Nat.lt_irrefl _)]
  obtain ⟨s, s0, hs, hmax, hmin⟩ : ∃ (s : Nat) (s0 : Int), s ≤ 5000 ∧ (∀ (ts : Array TypeId) (t : TypeId) (w : World), (Builtin.max_ ts t #[.int .i64 N, .int .i64 0]).run Tryd.prog w = .ok (.int .i64 s0) w) ∧ (∀ (ts : Array TypeId) (t : TypeId) (w : World), (Builtin.min_ ts t #[.int .i64 s0, .int .i64 5000]).run Tryd.prog w = .ok (.int .i64 (s : Int)) w) := by
    refine ⟨(min (max N 0) 5000).toNat, max N 0, by omega, fun ts t w => ?_, fun ts t w => ?_⟩
    · rw [run_max_int2]; congr 2; split <;> omega
    · rw [run_min_int2]; congr 2; split <;> omega
  obtain ⟨LL, lL, aL, vL, P5⟩ := shl_pack ha h.len hs (by omega)
  have HP5 := Lib.hid P5
  have HL5 := Lib.hid (And.intro lL (And.intro aL vL))
  have HPR := Lib.hid (And.intro lPR (And.intro aPR (And.intro bPR vPR)))
  have HX := Lib.hid hx
  have hmaxl := lay hmax
  have hminl := lay hmin
  have hmx := lay (fun (ts : Array TypeId) (t : TypeId) (w : World) => run_max2 (P := Tryd.prog) ts t n m w)
  have H := Lib.hid h
  have H' := Lib.hid h'
  have HA := Lib.hid ha
  have HB := Lib.hid hb
  have HT := Lib.hid ht
  have HS := Lib.hid (And.intro lS (And.intro aS (And.intro bS vS)))
  clear P5 lL aL vL lPR aPR bPR vPR hmax hmin hx h h' ha hb ht P1 P3 lS aS bS vS
  go_enter Tryd.func4, Tryd.ntmps4
  go_wp2_with fail
  refine (fixed_any _).mono ?_
  rintro e w1 ⟨rfl, hb1⟩
  go_wp2_with fail
  have e_f4 := ((At.box (i := 4) _ _ rfl).below hb1).1
  have g_f4 := At.grow ((At.box (i := 4) _ _ rfl).below hb1)
  have e_f5 := ((At.box (i := 5) _ _ rfl).below hb1).1
  have g_f5 := At.grow ((At.box (i := 5) _ _ rfl).below hb1)
  refine wp_region_grow none [(true, 0), (true, 1), (true, 3), (true, 4), (false, 2), (false, 5), (false, 6), (true, 7), (true, 8), (true, 9), (true, 10), (true, 11)] (by kernel_rfl) (by kernel_rfl) ?_
  repeat (refine ord_pas (by rfl) (fun K hK => ?_); go_simp; refine hK _ _ (fun w' hw' => (by first | (go_simp; done) | (go_simp; intro hh; cases hh))) ?_; clear hK K)
  (refine ord_call (by rfl) (fun K hK => ?_); go_simp; refine hK _ _ ?_; clear hK K)
  refine (copiedC_any (((H.out.below ((Below.refl _ _).alloc (Nat.le_refl _) _)).below hb1).below (Below.refl _ _).drew) (by omega)).mono ?_
  rintro e w2 ⟨A_a1, c_a1, rfl, o_a1, hb2⟩
  refine ⟨_, rfl, Grow.of_below hb2, ?_⟩
  (refine ord_norm (fun K hK => ?_); go_simp; refine hK _ ?_; clear hK K)
  (refine ord_call (by rfl) (fun K hK => ?_); go_simp; refine hK _ _ ?_; clear hK K)
  refine (copiedC_any ((((H'.out.below ((Below.refl _ _).alloc (Nat.le_refl _) _)).below hb1).below (Below.refl _ _).drew).below hb2) (by omega)).mono ?_
  rintro e w3 ⟨A_b1, c_b1, rfl, o_b1, hb3⟩
  refine ⟨_, rfl, Grow.of_below hb3, ?_⟩
  (refine ord_norm (fun K hK => ?_); go_simp; refine hK _ ?_; clear hK K)
  (refine ord_call (by rfl) (fun K hK => ?_); go_simp; refine hK _ _ ?_; clear hK K)
  refine (HP1.out (o_a1.rd.below hb3) o_b1.rd).mono ?_
  rintro e w4 ⟨A_s, n_s, c_s, rfl, o_s, hb4⟩
  refine ⟨_, rfl, Grow.of_below hb4, ?_⟩
  (refine ord_norm (fun K hK => ?_); go_simp; refine hK _ ?_; clear hK K)
  repeat (refine ord_pas (by rfl) (fun K hK => ?_); go_simp; refine hK _ _ (fun w' hw' => (by first | (go_simp; done) | (go_simp; intro hh; cases hh))) ?_; clear hK K)
  refine ord_nil ?_
  clear g_f4 e_f4 g_f5 e_f5
  have ln_s : n_s ≤ max n m := by rw [← o_s.len, HS.out.1]; exact Nat.le_refl _
  have ln_s2 : max n m ≤ n_s := by rw [← o_s.len, HS.out.1]; exact Nat.le_refl _
  clear o_a1 o_b1
  go_wp2_with fail
  have e_f5 := ((((((At.box (i := 5) _ _ rfl).below hb1).below (Below.refl _ _).drew).below hb2).below hb3).below hb4).1
  have g_f5 := At.growB ((((((At.box (i := 5) _ _ rfl).below hb1).below (Below.refl _ _).drew).below hb2).below hb3).below hb4)
  refine wp_region_fltR (KB (w4).heap.size) (KB.refl _) (KB.trans _) (KB.of_grow _) [(0, 0), (0, 2), (0, 5), (0, 6), (2, 3), (1, 1), (4, 3), (3, 4), (3, 7), (3, 8), (0, 9), (0, 10), (0, 11), (0, 12), (0, 13)] (by kernel_rfl) (by kernel_rfl) ?_
  repeat (refine flt_pas (by rfl) (fun K hK => ?_); go_simp; refine hK _ _ (fun w' hw' => (by first | (go_simp; done) | (go_simp; intro hh; cases hh))) ?_; clear hK K)
  refine flt_lit (k := .u64) (t := 22) (n := 1) ((World.drew w4).heap.size) [cs] (by rfl) rfl (fun w1 => (by go_simp)) rfl (by omega) (Nat.le_refl _) ?_
  refine flt_call (by rfl) (fun w5 hw5 K hK => ?_); go_simp; refine hK _ _ ?_; clear hK K
  refine (copiedC_any ((o_s.rd.below (below_drewN _ 1)).below hw5.below) (by omega)).mono ?_
  rintro e w6 ⟨A_s1, c_s1, rfl, o_s1, hb6⟩
  refine ⟨_, rfl, Grow.of_below hb6, ?_⟩
  (refine flt_norm (fun K hK => ?_); go_simp; refine hK _ ?_; clear hK K)
  refine flt_land (by rfl) (fun v_li w7 hw7 hF => ?_)
  obtain ⟨A_li, rfl, o_li⟩ := hF
  (refine flt_norm (fun K hK => ?_); go_simp; refine hK _ ?_; clear hK K)
  refine flt_appX (B := ((World.drew w4)).heap.size) (.tmp 41) (.tmp 43) (by rfl) rfl rfl elW rfl rfl ((o_s1.below hw7.below).mono hw5.below.size) o_li.rd (by omega) (bt (bt hw5.below hb6) hw7.below).size (fun w' h => KB.of_le h (Nat.le_refl _)) (fun A_ap c_ap w8 o_ap hb_ap => ?_)
  have hc_ap := (bt (bt hw5.below hb6) hw7.below).trans hb_ap
  (refine flt_norm (fun K hK => ?_); go_simp; refine hK _ ?_; clear hK K)
  refine flt_callX (by rfl) (fun K hK => ?_); go_simp; refine hK _ _ ?_; clear hK K
  refine (copiedC_any ((((((((H'.out.below ((Below.refl _ _).alloc (Nat.le_refl _) _)).below hb1).below (Below.refl _ _).drew).below hb2).below hb3).below hb4).below (below_drewN _ 1)).below hc_ap) (by omega)).mono ?_
  rintro e w9 ⟨A_b2, c_b2, rfl, o_b2, hb9⟩
  refine ⟨_, rfl, KB.of_below hb9, ?_⟩
  (refine flt_norm (fun K hK => ?_); go_simp; refine hK _ ?_; clear hK K)
  obtain ⟨BK, lBK, aBK, vBK, P2⟩ := sub_pack (n := n_s + 1) (m := m) (HS.out.2.1.append (All.cons HS.out.2.2.1 All.nil)) HB.out (by have := o_s.len; simp [this]) H'.out.len (by omega) (by omega) HS.out.2.2.2
  have HP2 := Lib.hid P2
  have HBK := Lib.hid (And.intro lBK (And.intro aBK vBK))
  clear P2 lBK aBK vBK
  refine flt_callX (by rfl) (fun K hK => ?_); go_simp; refine hK _ _ ?_; clear hK K
  refine (HP2.out (o_ap.rd.below hb9) o_b2.rd).mono ?_
  rintro e w10 ⟨A_bk, n_bk, c_bk, rfl, o_bk, hb10⟩
  refine ⟨_, rfl, KB.of_below hb10, ?_⟩
  (refine flt_norm (fun K hK => ?_); go_simp; refine hK _ ?_; clear hK K)
  repeat (refine flt_pas (by rfl) (fun K hK => ?_); go_simp; refine hK _ _ (fun w' hw' => (by first | (go_simp; done) | (go_simp; intro hh; cases hh))) ?_; clear hK K)
  refine flt_nil ?_
  clear g_f5 e_f5
  clear HP2 o_s1 o_ap o_b2 o_li
  have e4 := ((((((((((At.box (i := 4) _ _ rfl).below hb1).below (Below.refl _ _).drew).below hb2).below hb3).below hb4).below (below_drewN _ 1)).below hc_ap).below hb9).below hb10).1
  have ln_bk : n_bk ≤ n_s + 1 + m := by rw [← o_bk.len, HBK.out.1]; omega
  have q5 : ((n_s : Int) != ((max n m : Nat) : Int)) = false := by simp; omega
  go_wp2_with fail
  refine (copiedC_any ((((((((((H.out.below ((Below.refl _ _).alloc (Nat.le_refl _) _)).below hb1).below (Below.refl _ _).drew).below hb2).below hb3).below hb4).below (below_drewN _ 1)).below hc_ap).below hb9).below hb10) (by omega)).mono ?_
  rintro e w11 ⟨A_a2, c_a2, rfl, o_a2, hb11⟩
  clear e4
  have e4 := (((((((((((At.box (i := 4) _ _ rfl).below hb1).below (Below.refl _ _).drew).below hb2).below hb3).below hb4).below (below_drewN _ 1)).below hc_ap).below hb9).below hb10).below hb11).1
  have e5 := (((((((((((At.box (i := 5) _ _ rfl).below hb1).below (Below.refl _ _).drew).below hb2).below hb3).below hb4).below (below_drewN _ 1)).below hc_ap).below hb9).below hb10).below hb11).1
  go_wp2_with fail
  have CZ := Lib.hid (lcmp_any (w := w11) (o_bk.rd.below hb11) o_a2.rd HBK.out.2.1 HA.out (by omega) (by omega))
  rw [HBK.out.2.2, E0.out] at CZ
  refine CZ.out.mono ?_
  rintro e w' ⟨rfl, rfl⟩
  go_wp2_with fail
  clear e4 e5 o_a2 o_bk HBK q5 o_s HP1
  go_wp2_with fail
  have e_f4 := (((((((((((At.box (i := 4) _ _ rfl).below hb1).below (Below.refl _ _).drew).below hb2).below hb3).below hb4).below (below_drewN _ 1)).below hc_ap).below hb9).below hb10).below hb11).1
  have g_f4 := At.grow (((((((((((At.box (i := 4) _ _ rfl).below hb1).below (Below.refl _ _).drew).below hb2).below hb3).below hb4).below (below_drewN _ 1)).below hc_ap).below hb9).below hb10).below hb11)
  have e_f0 := (((((((((((At.box (i := 0) _ _ rfl).below hb1).below (Below.refl _ _).drew).below hb2).below hb3).below hb4).below (below_drewN _ 1)).below hc_ap).below hb9).below hb10).below hb11).1
  have g_f0 := At.grow (((((((((((At.box (i := 0) _ _ rfl).below hb1).below (Below.refl _ _).drew).below hb2).below hb3).below hb4).below (below_drewN _ 1)).below hc_ap).below hb9).below hb10).below hb11)
  have e_f3 := (((((((((((At.box (i := 3) _ _ rfl).below hb1).below (Below.refl _ _).drew).below hb2).below hb3).below hb4).below (below_drewN _ 1)).below hc_ap).below hb9).below hb10).below hb11).1
  have g_f3 := At.grow (((((((((((At.box (i := 3) _ _ rfl).below hb1).below (Below.refl _ _).drew).below hb2).below hb3).below hb4).below (below_drewN _ 1)).below hc_ap).below hb9).below hb10).below hb11)
  refine wp_region_grow none [(true, 0), (true, 1), (true, 3), (true, 4), (true, 5), (true, 6), (false, 2), (false, 7), (true, 8), (true, 9), (true, 10), (true, 11), (true, 12)] (by kernel_rfl) (by kernel_rfl) ?_
  repeat (refine ord_pas (by rfl) (fun K hK => ?_); go_simp; refine hK _ _ (fun w' hw' => (by first | (go_simp; done) | (go_simp; intro hh; cases hh))) ?_; clear hK K)
  (refine ord_call (by rfl) (fun K hK => ?_); go_simp; refine hK _ _ ?_; clear hK K)
  refine (copiedC_any ((((((((((((H.out.below ((Below.refl _ _).alloc (Nat.le_refl _) _)).below hb1).below (Below.refl _ _).drew).below hb2).below hb3).below hb4).below (below_drewN _ 1)).below hc_ap).below hb9).below hb10).below hb11).below (Below.refl _ _).drew) (by omega)).mono ?_
  rintro e w12 ⟨A_a3, c_a3, rfl, o_a3, hb12⟩
  refine ⟨_, rfl, Grow.of_below hb12, ?_⟩
  (refine ord_norm (fun K hK => ?_); go_simp; refine hK _ ?_; clear hK K)
  (refine ord_call (by rfl) (fun K hK => ?_); go_simp; refine hK _ _ ?_; clear hK K)
  refine (HP3.out o_a3.rd).mono ?_
  rintro e w13 ⟨A_p, n_p, c_p, rfl, o_p, hb13⟩
  refine ⟨_, rfl, Grow.of_below hb13, ?_⟩
  (refine ord_norm (fun K hK => ?_); go_simp; refine hK _ ?_; clear hK K)
  repeat (refine ord_pas (by rfl) (fun K hK => ?_); go_simp; refine hK _ _ (fun w' hw' => (by first | (go_simp; done) | (go_simp; intro hh; cases hh))) ?_; clear hK K)
  refine ord_nil ?_
  clear g_f4 e_f4 g_f0 e_f0 g_f3 e_f3
  have ln_p : n_p ≤ n := by rw [← o_p.len, HPR.out.1]; exact Nat.le_refl _
  have e3 := ((((((((((((((At.box (i := 3) _ _ rfl).below hb1).below (Below.refl _ _).drew).below hb2).below hb3).below hb4).below (below_drewN _ 1)).below hc_ap).below hb9).below hb10).below hb11).below (Below.refl _ _).drew).below hb12).below hb13).1
  have e0 := ((((((((((((((At.box (i := 0) _ _ rfl).below hb1).below (Below.refl _ _).drew).below hb2).below hb3).below hb4).below (below_drewN _ 1)).below hc_ap).below hb9).below hb10).below hb11).below (Below.refl _ _).drew).below hb12).below hb13).1
  have hcx := HCX.out
  have d8 : decide (c < x) = true := by simpa using hcx
  go_wp2_with fail
  clear d8 e3 e0
  go_wp2_with fail
  have e_f0 := ((((((((((((((At.box (i := 0) _ _ rfl).below hb1).below (Below.refl _ _).drew).below hb2).below hb3).below hb4).below (below_drewN _ 1)).below hc_ap).below hb9).below hb10).below hb11).below (Below.refl _ _).drew).below hb12).below hb13).1
  have g_f0 := At.growB ((((((((((((((At.box (i := 0) _ _ rfl).below hb1).below (Below.refl _ _).drew).below hb2).below hb3).below hb4).below (below_drewN _ 1)).below hc_ap).below hb9).below hb10).below hb11).below (Below.refl _ _).drew).below hb12).below hb13)
  refine wp_region_fltR (KB (w13).heap.size) (KB.refl _) (KB.trans _) (KB.of_grow _) [(0, 0), (0, 2), (0, 5), (0, 6), (2, 3), (1, 1), (4, 3), (3, 4), (3, 7), (0, 8), (0, 9), (0, 10), (0, 11), (0, 12), (0, 13), (0, 14)] (by kernel_rfl) (by kernel_rfl) ?_
  repeat (refine flt_pas (by rfl) (fun K hK => ?_); go_simp; refine hK _ _ (fun w' hw' => (by first | (go_simp; done) | (go_simp; intro hh; cases hh))) ?_; clear hK K)
  refine flt_lit (k := .u64) (t := 22) (n := 1) ((World.drew w13).heap.size) [tp] (by rfl) rfl (fun w1 => (by go_simp)) rfl (by omega) (Nat.le_refl _) ?_
  refine flt_call (by rfl) (fun w14 hw14 K hK => ?_); go_simp; refine hK _ _ ?_; clear hK K
  refine (copiedC_any ((o_p.rd.below (below_drewN _ 1)).below hw14.below) (by omega)).mono ?_
  rintro e w15 ⟨A_p1, c_p1, rfl, o_p1, hb15⟩
  refine ⟨_, rfl, Grow.of_below hb15, ?_⟩
  (refine flt_norm (fun K hK => ?_); go_simp; refine hK _ ?_; clear hK K)
  refine flt_land (by rfl) (fun v_li2 w16 hw16 hF => ?_)
  obtain ⟨A_li2, rfl, o_li2⟩ := hF
  (refine flt_norm (fun K hK => ?_); go_simp; refine hK _ ?_; clear hK K)
  refine flt_appX (B := ((World.drew w13)).heap.size) (.tmp 91) (.tmp 93) (by rfl) rfl rfl elW rfl rfl ((o_p1.below hw16.below).mono hw14.below.size) o_li2.rd (by omega) (bt (bt hw14.below hb15) hw16.below).size (fun w' h => KB.of_le h (Nat.le_refl _)) (fun A_ap2 c_ap2 w17 o_ap2 hb_ap2 => ?_)
  have hc_ap2 := (bt (bt hw14.below hb15) hw16.below).trans hb_ap2
  (refine flt_norm (fun K hK => ?_); go_simp; refine hK _ ?_; clear hK K)
  obtain ⟨QQ, lQ, aQ, vQ, P4⟩ := div_pack (n := n_p + 1) (HPR.out.2.1.append (All.cons HPR.out.2.2.1 All.nil)) (by have := o_p.len; simp [this]) HX.out hcx (by omega) HPR.out.2.2.2
  have HP4 := Lib.hid P4
  have HQ4 := Lib.hid (And.intro lQ (And.intro aQ vQ))
  clear P4 lQ aQ vQ
  refine flt_callX (by rfl) (fun K hK => ?_); go_simp; refine hK _ _ ?_; clear hK K
  refine (HP4.out o_ap2.rd).mono ?_
  rintro e w18 ⟨A_q, n_q, c_q, rfl, o_q, hb18⟩
  refine ⟨_, rfl, KB.of_below hb18, ?_⟩
  (refine flt_norm (fun K hK => ?_); go_simp; refine hK _ ?_; clear hK K)
  repeat (refine flt_pas (by rfl) (fun K hK => ?_); go_simp; refine hK _ _ (fun w' hw' => (by first | (go_simp; done) | (go_simp; intro hh; cases hh))) ?_; clear hK K)
  refine flt_nil ?_
  clear g_f0 e_f0
  have ln_q : n_q ≤ n_p + 1 := by rw [← o_q.len, HQ4.out.1]; exact Nat.le_refl _
  clear o_p1 o_ap2 o_li2 HP4
  have e3 := (((((((((((((((((At.box (i := 3) _ _ rfl).below hb1).below (Below.refl _ _).drew).below hb2).below hb3).below hb4).below (below_drewN _ 1)).below hc_ap).below hb9).below hb10).below hb11).below (Below.refl _ _).drew).below hb12).below hb13).below (below_drewN _ 1)).below hc_ap2).below hb18).1
  have e4 := (((((((((((((((((At.box (i := 4) _ _ rfl).below hb1).below (Below.refl _ _).drew).below hb2).below hb3).below hb4).below (below_drewN _ 1)).below hc_ap).below hb9).below hb10).below hb11).below (Below.refl _ _).drew).below hb12).below hb13).below (below_drewN _ 1)).below hc_ap2).below hb18).1
  go_wp2_with fail
  refine (copiedC_any (((((((((((((((((H.out.below ((Below.refl _ _).alloc (Nat.le_refl _) _)).below hb1).below (Below.refl _ _).drew).below hb2).below hb3).below hb4).below (below_drewN _ 1)).below hc_ap).below hb9).below hb10).below hb11).below (Below.refl _ _).drew).below hb12).below hb13).below (below_drewN _ 1)).below hc_ap2).below hb18) (by omega)).mono ?_
  rintro e w19 ⟨A_a4, c_a4, rfl, o_a4, hb19⟩
  clear e3 e4
  go_wp2_with fail
  have CZ := Lib.hid (lcmp_any (w := w19) (o_q.rd.below hb19) o_a4.rd HQ4.out.2.1 HA.out (by omega) (by omega))
  rw [HQ4.out.2.2, E0.out] at CZ
  refine CZ.out.mono ?_
  rintro e w' ⟨rfl, rfl⟩
  clear o_a4 o_q HQ4 hcx o_p HP3 HPR
  have e6 := ((((((((((((((((((At.box (i := 6) _ _ rfl).below hb1).below (Below.refl _ _).drew).below hb2).below hb3).below hb4).below (below_drewN _ 1)).below hc_ap).below hb9).below hb10).below hb11).below (Below.refl _ _).drew).below hb12).below hb13).below (below_drewN _ 1)).below hc_ap2).below hb18).below hb19).1
  have e4 := ((((((((((((((((((At.box (i := 4) _ _ rfl).below hb1).below (Below.refl _ _).drew).below hb2).below hb3).below hb4).below (below_drewN _ 1)).below hc_ap).below hb9).below hb10).below hb11).below (Below.refl _ _).drew).below hb12).below hb13).below (below_drewN _ 1)).below hc_ap2).below hb18).below hb19).1
  go_wp2_with fail
  refine (copiedC_any ((((((((((((((((((H.out.below ((Below.refl _ _).alloc (Nat.le_refl _) _)).below hb1).below (Below.refl _ _).drew).below hb2).below hb3).below hb4).below (below_drewN _ 1)).below hc_ap).below hb9).below hb10).below hb11).below (Below.refl _ _).drew).below hb12).below hb13).below (below_drewN _ 1)).below hc_ap2).below hb18).below hb19) (by omega)).mono ?_
  rintro e w20 ⟨A_a5, c_a5, rfl, o_a5, hb20⟩
  clear e4 e6
  go_wp2_with fail
  refine (HP5.out o_a5.rd).mono ?_
  rintro e w21 ⟨A_l, n_l, c_l, rfl, o_l, hb21⟩
  have ln_l : n_l ≤ n + 80 := by rw [← o_l.len]; exact HL5.out.1
  obtain ⟨MM, lM, aM, vM, P6⟩ := shr_pack (n := n_l) HL5.out.2.1 o_l.len hs (by omega) HL5.out.2.2
  have HP6 := Lib.hid P6
  have HM6 := Lib.hid (And.intro lM (And.intro aM vM))
  clear P6 lM aM vM
  go_wp2_with fail
  refine (HP6.out o_l.rd).mono ?_
  rintro e w22 ⟨A_mm, n_mm, c_mm, rfl, o_mm, hb22⟩
  have ln_m : n_mm ≤ n_l := by rw [← o_mm.len]; exact HM6.out.1
  have e4 := (((((((((((((((((((((At.box (i := 4) _ _ rfl).below hb1).below (Below.refl _ _).drew).below hb2).below hb3).below hb4).below (below_drewN _ 1)).below hc_ap).below hb9).below hb10).below hb11).below (Below.refl _ _).drew).below hb12).below hb13).below (below_drewN _ 1)).below hc_ap2).below hb18).below hb19).below hb20).below hb21).below hb22).1
  go_wp2_with fail
  refine (copiedC_any (((((((((((((((((((((H.out.below ((Below.refl _ _).alloc (Nat.le_refl _) _)).below hb1).below (Below.refl _ _).drew).below hb2).below hb3).below hb4).below (below_drewN _ 1)).below hc_ap).below hb9).below hb10).below hb11).below (Below.refl _ _).drew).below hb12).below hb13).below (below_drewN _ 1)).below hc_ap2).below hb18).below hb19).below hb20).below hb21).below hb22) (by omega)).mono ?_
  rintro e w23 ⟨A_a6, c_a6, rfl, o_a6, hb23⟩
  clear e4
  go_wp2_with fail
  have CZ := Lib.hid (lcmp_any (w := w23) (o_mm.rd.below hb23) o_a6.rd HM6.out.2.1 HA.out (by omega) (by omega))
  rw [HM6.out.2.2, E0.out] at CZ
  refine CZ.out.mono ?_
  rintro e w' ⟨rfl, rfl⟩
  clear o_a6 o_mm HP6 HM6
  have hX := HX0.out
  have EZ : Hid (cmpN (val W xs) 0 = 1) := by show _ = _; rw [cmpN, if_neg (Nat.not_lt_zero _), if_pos (by omega)]
  have HNB : Hid (nb (val W LL) = nb (val W xs) + s) := by show _ = _; rw [HL5.out.2.2]; exact nb_shl' (by omega)
  have HTZ : Hid (tzn (val W LL) = tzn (val W xs) + s) := by show _ = _; rw [HL5.out.2.2]; exact tzn_shl (by omega)
  have hnbl : nb (val W xs) ≤ 64 * n := by
    by_cases h0 : val W xs = 0
    · rw [h0]; simp [nb]
    · have h1 := nb_le (x := val W xs) (by omega)
      have h2 := H.out.vlt HA.out
      rw [W_pow2] at h2
      have := (Nat.pow_lt_pow_iff_right (show 1 < 2 by omega)).1 (Nat.lt_of_le_of_lt h1.1 h2)
      omega
  have htzl := tzn_le_nb (x := val W xs) (by omega)
  have w1 := lay (show IntKind.i64.wrap ((nb (val W xs) : Int) + (s : Int)) = (nb (val W xs) : Int) + (s : Int) from IntWalk.i64_in _ (by omega))
  have w2 := lay (show IntKind.i64.wrap ((tzn (val W xs) : Int) + (s : Int)) = (tzn (val W xs) : Int) + (s : Int) from IntWalk.i64_in _ (by omega))
  clear hX
  go_wp2_with fail
  have e_f4 := ((((((((((((((((((((((At.box (i := 4) _ _ rfl).below hb1).below (Below.refl _ _).drew).below hb2).below hb3).below hb4).below (below_drewN _ 1)).below hc_ap).below hb9).below hb10).below hb11).below (Below.refl _ _).drew).below hb12).below hb13).below (below_drewN _ 1)).below hc_ap2).below hb18).below hb19).below hb20).below hb21).below hb22).below hb23).1
  have g_f4 := At.grow ((((((((((((((((((((((At.box (i := 4) _ _ rfl).below hb1).below (Below.refl _ _).drew).below hb2).below hb3).below hb4).below (below_drewN _ 1)).below hc_ap).below hb9).below hb10).below hb11).below (Below.refl _ _).drew).below hb12).below hb13).below (below_drewN _ 1)).below hc_ap2).below hb18).below hb19).below hb20).below hb21).below hb22).below hb23)
  refine wp_region_grow none [(true, 0), (true, 1), (false, 2), (false, 3), (true, 4), (true, 5), (true, 6), (true, 8), (true, 9), (true, 12), (false, 7), (false, 10), (false, 11), (true, 13), (true, 14), (true, 15), (true, 16), (true, 18), (true, 19), (true, 22), (false, 17), (false, 20), (false, 21), (true, 23), (true, 24), (true, 25), (true, 26)] (by kernel_rfl) (by kernel_rfl) ?_
  repeat (refine ord_pas (by rfl) (fun K hK => ?_); go_simp; refine hK _ _ (fun w' hw' => (by first | (go_simp; done) | (go_simp; intro hh; cases hh))) ?_; clear hK K)
  (refine ord_call (by rfl) (fun K hK => ?_); go_simp; refine hK _ _ ?_; clear hK K)
  refine (copiedC_any (((((((((((((((((((((((H.out.below ((Below.refl _ _).alloc (Nat.le_refl _) _)).below hb1).below (Below.refl _ _).drew).below hb2).below hb3).below hb4).below (below_drewN _ 1)).below hc_ap).below hb9).below hb10).below hb11).below (Below.refl _ _).drew).below hb12).below hb13).below (below_drewN _ 1)).below hc_ap2).below hb18).below hb19).below hb20).below hb21).below hb22).below hb23).below (Below.refl _ _).drew) (by omega)).mono ?_
  rintro e w24 ⟨A_a7, c_a7, rfl, o_a7, hb24⟩
  refine ⟨_, rfl, Grow.of_below hb24, ?_⟩
  (refine ord_norm (fun K hK => ?_); go_simp; refine hK _ ?_; clear hK K)
  (refine ord_call (by rfl) (fun K hK => ?_); go_simp; refine hK _ _ ?_; clear hK K)
  have CZ := Lib.hid (lcmp_any (A2 := none) (c2 := 0) o_a7.rd Rd.nil HA.out All.nil (by omega) (by omega))
  rw [show val W [] = 0 from rfl, EZ.out] at CZ
  refine CZ.out.mono ?_
  rintro e w' ⟨rfl, rfl⟩
  refine ⟨_, rfl, Grow.refl _ _, ?_⟩
  (refine ord_norm (fun K hK => ?_); go_simp; refine hK _ ?_; clear hK K)
  have em_f4 := ((((((((((((((((((((((((At.box (i := 4) _ _ rfl).below hb1).below (Below.refl _ _).drew).below hb2).below hb3).below hb4).below (below_drewN _ 1)).below hc_ap).below hb9).below hb10).below hb11).below (Below.refl _ _).drew).below hb12).below hb13).below (below_drewN _ 1)).below hc_ap2).below hb18).below hb19).below hb20).below hb21).below hb22).below hb23).below (Below.refl _ _).drew).below hb24).1
  have gm_f4 := At.grow0 ((((((((((((((((((((((((At.box (i := 4) _ _ rfl).below hb1).below (Below.refl _ _).drew).below hb2).below hb3).below hb4).below (below_drewN _ 1)).below hc_ap).below hb9).below hb10).below hb11).below (Below.refl _ _).drew).below hb12).below hb13).below (below_drewN _ 1)).below hc_ap2).below hb18).below hb19).below hb20).below hb21).below hb22).below hb23).below (Below.refl _ _).drew).below hb24)
  repeat (refine ord_pas (by rfl) (fun K hK => ?_); go_simp; refine hK _ _ (fun w' hw' => (by first | (go_simp; done) | (go_simp; intro hh; cases hh))) ?_; clear hK K)
  clear gm_f4 em_f4
  (refine ord_call (by rfl) (fun K hK => ?_); go_simp; refine hK _ _ ?_; clear hK K)
  have CB := Lib.hid (lbits_nb ((((o_l.rd.below hb22).below hb23).below (Below.refl _ _).drew).below hb24) HL5.out.2.1 (by omega))
  rw [HNB.out] at CB
  refine CB.out.mono ?_
  rintro e w' ⟨rfl, rfl⟩
  refine ⟨_, rfl, Grow.refl _ _, ?_⟩
  (refine ord_norm (fun K hK => ?_); go_simp; refine hK _ ?_; clear hK K)
  (refine ord_call (by rfl) (fun K hK => ?_); go_simp; refine hK _ _ ?_; clear hK K)
  refine (copiedC_any ((((((((((((((((((((((((H.out.below ((Below.refl _ _).alloc (Nat.le_refl _) _)).below hb1).below (Below.refl _ _).drew).below hb2).below hb3).below hb4).below (below_drewN _ 1)).below hc_ap).below hb9).below hb10).below hb11).below (Below.refl _ _).drew).below hb12).below hb13).below (below_drewN _ 1)).below hc_ap2).below hb18).below hb19).below hb20).below hb21).below hb22).below hb23).below (Below.refl _ _).drew).below hb24) (by omega)).mono ?_
  rintro e w25 ⟨A_a8, c_a8, rfl, o_a8, hb25⟩
  refine ⟨_, rfl, Grow.of_below hb25, ?_⟩
  (refine ord_norm (fun K hK => ?_); go_simp; refine hK _ ?_; clear hK K)
  (refine ord_call (by rfl) (fun K hK => ?_); go_simp; refine hK _ _ ?_; clear hK K)
  refine (lbits_nb o_a8.rd HA.out (by omega)).mono ?_
  rintro e w' ⟨rfl, rfl⟩
  refine ⟨_, rfl, Grow.refl _ _, ?_⟩
  (refine ord_norm (fun K hK => ?_); go_simp; refine hK _ ?_; clear hK K)
  have em_f4 := (((((((((((((((((((((((((At.box (i := 4) _ _ rfl).below hb1).below (Below.refl _ _).drew).below hb2).below hb3).below hb4).below (below_drewN _ 1)).below hc_ap).below hb9).below hb10).below hb11).below (Below.refl _ _).drew).below hb12).below hb13).below (below_drewN _ 1)).below hc_ap2).below hb18).below hb19).below hb20).below hb21).below hb22).below hb23).below (Below.refl _ _).drew).below hb24).below hb25).1
  have gm_f4 := At.grow0 (((((((((((((((((((((((((At.box (i := 4) _ _ rfl).below hb1).below (Below.refl _ _).drew).below hb2).below hb3).below hb4).below (below_drewN _ 1)).below hc_ap).below hb9).below hb10).below hb11).below (Below.refl _ _).drew).below hb12).below hb13).below (below_drewN _ 1)).below hc_ap2).below hb18).below hb19).below hb20).below hb21).below hb22).below hb23).below (Below.refl _ _).drew).below hb24).below hb25)
  repeat (refine ord_pas (by rfl) (fun K hK => ?_); go_simp; refine hK _ _ (fun w' hw' => (by first | (go_simp; done) | (go_simp; intro hh; cases hh))) ?_; clear hK K)
  clear gm_f4 em_f4
  (refine ord_call (by rfl) (fun K hK => ?_); go_simp; refine hK _ _ ?_; clear hK K)
  have CT := Lib.hid (lzeros_any (((((o_l.rd.below hb22).below hb23).below (Below.refl _ _).drew).below hb24).below hb25) HL5.out.2.1 (((((((((((((((((((((((((HT.out.below ((Below.refl _ _).alloc (Nat.le_refl _) _)).below hb1).below (Below.refl _ _).drew).below hb2).below hb3).below hb4).below (below_drewN _ 1)).below hc_ap).below hb9).below hb10).below hb11).below (Below.refl _ _).drew).below hb12).below hb13).below (below_drewN _ 1)).below hc_ap2).below hb18).below hb19).below hb20).below hb21).below hb22).below hb23).below (Below.refl _ _).drew).below hb24).below hb25) (by omega))
  rw [HTZ.out] at CT
  refine CT.out.mono ?_
  rintro e w' ⟨rfl, rfl⟩
  refine ⟨_, rfl, Grow.refl _ _, ?_⟩
  (refine ord_norm (fun K hK => ?_); go_simp; refine hK _ ?_; clear hK K)
  (refine ord_call (by rfl) (fun K hK => ?_); go_simp; refine hK _ _ ?_; clear hK K)
  refine (copiedC_any (((((((((((((((((((((((((H.out.below ((Below.refl _ _).alloc (Nat.le_refl _) _)).below hb1).below (Below.refl _ _).drew).below hb2).below hb3).below hb4).below (below_drewN _ 1)).below hc_ap).below hb9).below hb10).below hb11).below (Below.refl _ _).drew).below hb12).below hb13).below (below_drewN _ 1)).below hc_ap2).below hb18).below hb19).below hb20).below hb21).below hb22).below hb23).below (Below.refl _ _).drew).below hb24).below hb25) (by omega)).mono ?_
  rintro e w27 ⟨A_a9, c_a9, rfl, o_a9, hb27⟩
  refine ⟨_, rfl, Grow.of_below hb27, ?_⟩
  (refine ord_norm (fun K hK => ?_); go_simp; refine hK _ ?_; clear hK K)
  (refine ord_call (by rfl) (fun K hK => ?_); go_simp; refine hK _ _ ?_; clear hK K)
  refine (lzeros_any o_a9.rd HA.out ((((((((((((((((((((((((((HT.out.below ((Below.refl _ _).alloc (Nat.le_refl _) _)).below hb1).below (Below.refl _ _).drew).below hb2).below hb3).below hb4).below (below_drewN _ 1)).below hc_ap).below hb9).below hb10).below hb11).below (Below.refl _ _).drew).below hb12).below hb13).below (below_drewN _ 1)).below hc_ap2).below hb18).below hb19).below hb20).below hb21).below hb22).below hb23).below (Below.refl _ _).drew).below hb24).below hb25).below hb27) (by omega)).mono ?_
  rintro e w' ⟨rfl, rfl⟩
  refine ⟨_, rfl, Grow.refl _ _, ?_⟩
  (refine ord_norm (fun K hK => ?_); go_simp; refine hK _ ?_; clear hK K)
  repeat (refine ord_pas (by rfl) (fun K hK => ?_); go_simp; refine hK _ _ (fun w' hw' => (by first | (go_simp; done) | (go_simp; intro hh; cases hh))) ?_; clear hK K)
  refine ord_nil ?_
  clear g_f4 e_f4
  clear o_a7 o_a8 o_a9 o_l
  have e4 := ((((((((((((((((((((((((((At.box (i := 4) _ _ rfl).below hb1).below (Below.refl _ _).drew).below hb2).below hb3).below hb4).below (below_drewN _ 1)).below hc_ap).below hb9).below hb10).below hb11).below (Below.refl _ _).drew).below hb12).below hb13).below (below_drewN _ 1)).below hc_ap2).below hb18).below hb19).below hb20).below hb21).below hb22).below hb23).below (Below.refl _ _).drew).below hb24).below hb25).below hb27).1
  have e5 := ((((((((((((((((((((((((((At.box (i := 5) _ _ rfl).below hb1).below (Below.refl _ _).drew).below hb2).below hb3).below hb4).below (below_drewN _ 1)).below hc_ap).below hb9).below hb10).below hb11).below (Below.refl _ _).drew).below hb12).below hb13).below (below_drewN _ 1)).below hc_ap2).below hb18).below hb19).below hb20).below hb21).below hb22).below hb23).below (Below.refl _ _).drew).below hb24).below hb25).below hb27).1
  by_cases hmn : n < m
  · have d9 : decide (n < m) = true := by simpa using hmn
    go_wp2_with fail
    clear e4 e5 d9
    go_wp2_with fail
    have e_f4 := ((((((((((((((((((((((((((At.box (i := 4) _ _ rfl).below hb1).below (Below.refl _ _).drew).below hb2).below hb3).below hb4).below (below_drewN _ 1)).below hc_ap).below hb9).below hb10).below hb11).below (Below.refl _ _).drew).below hb12).below hb13).below (below_drewN _ 1)).below hc_ap2).below hb18).below hb19).below hb20).below hb21).below hb22).below hb23).below (Below.refl _ _).drew).below hb24).below hb25).below hb27).1
    have g_f4 := At.grow ((((((((((((((((((((((((((At.box (i := 4) _ _ rfl).below hb1).below (Below.refl _ _).drew).below hb2).below hb3).below hb4).below (below_drewN _ 1)).below hc_ap).below hb9).below hb10).below hb11).below (Below.refl _ _).drew).below hb12).below hb13).below (below_drewN _ 1)).below hc_ap2).below hb18).below hb19).below hb20).below hb21).below hb22).below hb23).below (Below.refl _ _).drew).below hb24).below hb25).below hb27)
    have e_f5 := ((((((((((((((((((((((((((At.box (i := 5) _ _ rfl).below hb1).below (Below.refl _ _).drew).below hb2).below hb3).below hb4).below (below_drewN _ 1)).below hc_ap).below hb9).below hb10).below hb11).below (Below.refl _ _).drew).below hb12).below hb13).below (below_drewN _ 1)).below hc_ap2).below hb18).below hb19).below hb20).below hb21).below hb22).below hb23).below (Below.refl _ _).drew).below hb24).below hb25).below hb27).1
    have g_f5 := At.grow ((((((((((((((((((((((((((At.box (i := 5) _ _ rfl).below hb1).below (Below.refl _ _).drew).below hb2).below hb3).below hb4).below (below_drewN _ 1)).below hc_ap).below hb9).below hb10).below hb11).below (Below.refl _ _).drew).below hb12).below hb13).below (below_drewN _ 1)).below hc_ap2).below hb18).below hb19).below hb20).below hb21).below hb22).below hb23).below (Below.refl _ _).drew).below hb24).below hb25).below hb27)
    have e_f0 := ((((((((((((((((((((((((((At.box (i := 0) _ _ rfl).below hb1).below (Below.refl _ _).drew).below hb2).below hb3).below hb4).below (below_drewN _ 1)).below hc_ap).below hb9).below hb10).below hb11).below (Below.refl _ _).drew).below hb12).below hb13).below (below_drewN _ 1)).below hc_ap2).below hb18).below hb19).below hb20).below hb21).below hb22).below hb23).below (Below.refl _ _).drew).below hb24).below hb25).below hb27).1
    have g_f0 := At.grow ((((((((((((((((((((((((((At.box (i := 0) _ _ rfl).below hb1).below (Below.refl _ _).drew).below hb2).below hb3).below hb4).below (below_drewN _ 1)).below hc_ap).below hb9).below hb10).below hb11).below (Below.refl _ _).drew).below hb12).below hb13).below (below_drewN _ 1)).below hc_ap2).below hb18).below hb19).below hb20).below hb21).below hb22).below hb23).below (Below.refl _ _).drew).below hb24).below hb25).below hb27)
    refine wp_region_grow none [(true, 0), (true, 1), (true, 3), (true, 4), (true, 6), (true, 7), (false, 2), (false, 5), (false, 8), (true, 9), (true, 10), (true, 11), (true, 12), (true, 13), (true, 14), (true, 15)] (by kernel_rfl) (by kernel_rfl) ?_
    repeat (refine ord_pas (by rfl) (fun K hK => ?_); go_simp; refine hK _ _ (fun w' hw' => (by first | (go_simp; done) | (go_simp; intro hh; cases hh))) ?_; clear hK K)
    (refine ord_call (by rfl) (fun K hK => ?_); go_simp; refine hK _ _ ?_; clear hK K)
    refine (copiedC_any (((((((((((((((((((((((((((H.out.below ((Below.refl _ _).alloc (Nat.le_refl _) _)).below hb1).below (Below.refl _ _).drew).below hb2).below hb3).below hb4).below (below_drewN _ 1)).below hc_ap).below hb9).below hb10).below hb11).below (Below.refl _ _).drew).below hb12).below hb13).below (below_drewN _ 1)).below hc_ap2).below hb18).below hb19).below hb20).below hb21).below hb22).below hb23).below (Below.refl _ _).drew).below hb24).below hb25).below hb27).below (Below.refl _ _).drew) (by omega)).mono ?_
    rintro e w29 ⟨A_aa, c_aa, rfl, o_aa, hb29⟩
    refine ⟨_, rfl, Grow.of_below hb29, ?_⟩
    (refine ord_norm (fun K hK => ?_); go_simp; refine hK _ ?_; clear hK K)
    (refine ord_call (by rfl) (fun K hK => ?_); go_simp; refine hK _ _ ?_; clear hK K)
    refine (copiedC_any ((((((((((((((((((((((((((((H'.out.below ((Below.refl _ _).alloc (Nat.le_refl _) _)).below hb1).below (Below.refl _ _).drew).below hb2).below hb3).below hb4).below (below_drewN _ 1)).below hc_ap).below hb9).below hb10).below hb11).below (Below.refl _ _).drew).below hb12).below hb13).below (below_drewN _ 1)).below hc_ap2).below hb18).below hb19).below hb20).below hb21).below hb22).below hb23).below (Below.refl _ _).drew).below hb24).below hb25).below hb27).below (Below.refl _ _).drew).below hb29) (by omega)).mono ?_
    rintro e w30 ⟨A_ab, c_ab, rfl, o_ab, hb30⟩
    refine ⟨_, rfl, Grow.of_below hb30, ?_⟩
    (refine ord_norm (fun K hK => ?_); go_simp; refine hK _ ?_; clear hK K)
    (refine ord_call (by rfl) (fun K hK => ?_); go_simp; refine hK _ _ ?_; clear hK K)
    refine (lmulSub_arg hmn).mono ?_
    rintro e w31 ⟨A_ms, n_ms, c_ms, rfl, o_ms, hb31⟩
    refine ⟨_, rfl, Grow.of_below hb31, ?_⟩
    (refine ord_norm (fun K hK => ?_); go_simp; refine hK _ ?_; clear hK K)
    repeat (refine ord_pas (by rfl) (fun K hK => ?_); go_simp; refine hK _ _ (fun w' hw' => (by first | (go_simp; done) | (go_simp; intro hh; cases hh))) ?_; clear hK K)
    refine ord_nil ?_
    clear g_f4 e_f4 g_f5 e_f5 g_f0 e_f0
    go_wp2
    go_ret
    exact ⟨rfl, (bt (bt (bt (bt (bt (bt (bt (bt (bt (bt (bt (bt (bt (bt (bt (bt (bt (bt (bt (bt (bt (bt (bt (bt (bt (bt (bt (bt (bt ((Below.refl _ _).alloc (Nat.le_refl _) _) hb1) (Below.refl _ _).drew) hb2) hb3) hb4) (below_drewN _ 1)) hc_ap) hb9) hb10) hb11) (Below.refl _ _).drew) hb12) hb13) (below_drewN _ 1)) hc_ap2) hb18) hb19) hb20) hb21) hb22) hb23) (Below.refl _ _).drew) hb24) hb25) hb27) (Below.refl _ _).drew) hb29) hb30) hb31)⟩
  · have d9 : decide (n < m) = false := by simpa using hmn
    have hmn2 : m ≤ n := by omega
    go_wp2_with fail
    clear e4 e5 d9 hmn
    obtain ⟨DD, dv, lD, aD, bD, vD, P7⟩ := msub_pack HA.out HB.out H.out.len H'.out.len HX.out hmn2 (by omega)
    obtain ⟨BW, up, lB, aB, bB, vB, P8⟩ := mad_pack HB.out H'.out.len HX.out W_pos (by omega)
    have HP7 := Lib.hid P7
    have HP8 := Lib.hid P8
    have HD7 := Lib.hid (And.intro lD (And.intro aD (And.intro bD vD)))
    have HB8 := Lib.hid (And.intro lB (And.intro aB (And.intro bB vB)))
    clear P7 P8 lD aD bD vD lB aB bB vB
    go_wp2_with fail
    have e_f4 := ((((((((((((((((((((((((((At.box (i := 4) _ _ rfl).below hb1).below (Below.refl _ _).drew).below hb2).below hb3).below hb4).below (below_drewN _ 1)).below hc_ap).below hb9).below hb10).below hb11).below (Below.refl _ _).drew).below hb12).below hb13).below (below_drewN _ 1)).below hc_ap2).below hb18).below hb19).below hb20).below hb21).below hb22).below hb23).below (Below.refl _ _).drew).below hb24).below hb25).below hb27).1
    have g_f4 := At.grow ((((((((((((((((((((((((((At.box (i := 4) _ _ rfl).below hb1).below (Below.refl _ _).drew).below hb2).below hb3).below hb4).below (below_drewN _ 1)).below hc_ap).below hb9).below hb10).below hb11).below (Below.refl _ _).drew).below hb12).below hb13).below (below_drewN _ 1)).below hc_ap2).below hb18).below hb19).below hb20).below hb21).below hb22).below hb23).below (Below.refl _ _).drew).below hb24).below hb25).below hb27)
    have e_f5 := ((((((((((((((((((((((((((At.box (i := 5) _ _ rfl).below hb1).below (Below.refl _ _).drew).below hb2).below hb3).below hb4).below (below_drewN _ 1)).below hc_ap).below hb9).below hb10).below hb11).below (Below.refl _ _).drew).below hb12).below hb13).below (below_drewN _ 1)).below hc_ap2).below hb18).below hb19).below hb20).below hb21).below hb22).below hb23).below (Below.refl _ _).drew).below hb24).below hb25).below hb27).1
    have g_f5 := At.grow ((((((((((((((((((((((((((At.box (i := 5) _ _ rfl).below hb1).below (Below.refl _ _).drew).below hb2).below hb3).below hb4).below (below_drewN _ 1)).below hc_ap).below hb9).below hb10).below hb11).below (Below.refl _ _).drew).below hb12).below hb13).below (below_drewN _ 1)).below hc_ap2).below hb18).below hb19).below hb20).below hb21).below hb22).below hb23).below (Below.refl _ _).drew).below hb24).below hb25).below hb27)
    have e_f0 := ((((((((((((((((((((((((((At.box (i := 0) _ _ rfl).below hb1).below (Below.refl _ _).drew).below hb2).below hb3).below hb4).below (below_drewN _ 1)).below hc_ap).below hb9).below hb10).below hb11).below (Below.refl _ _).drew).below hb12).below hb13).below (below_drewN _ 1)).below hc_ap2).below hb18).below hb19).below hb20).below hb21).below hb22).below hb23).below (Below.refl _ _).drew).below hb24).below hb25).below hb27).1
    have g_f0 := At.grow ((((((((((((((((((((((((((At.box (i := 0) _ _ rfl).below hb1).below (Below.refl _ _).drew).below hb2).below hb3).below hb4).below (below_drewN _ 1)).below hc_ap).below hb9).below hb10).below hb11).below (Below.refl _ _).drew).below hb12).below hb13).below (below_drewN _ 1)).below hc_ap2).below hb18).below hb19).below hb20).below hb21).below hb22).below hb23).below (Below.refl _ _).drew).below hb24).below hb25).below hb27)
    refine wp_region_grow none [(true, 0), (true, 1), (true, 3), (true, 4), (true, 6), (true, 7), (false, 2), (false, 5), (false, 8), (true, 9), (true, 10), (true, 11), (true, 12), (true, 13), (true, 14), (true, 15)] (by kernel_rfl) (by kernel_rfl) ?_
    repeat (refine ord_pas (by rfl) (fun K hK => ?_); go_simp; refine hK _ _ (fun w' hw' => (by first | (go_simp; done) | (go_simp; intro hh; cases hh))) ?_; clear hK K)
    (refine ord_call (by rfl) (fun K hK => ?_); go_simp; refine hK _ _ ?_; clear hK K)
    refine (copiedC_any (((((((((((((((((((((((((((H.out.below ((Below.refl _ _).alloc (Nat.le_refl _) _)).below hb1).below (Below.refl _ _).drew).below hb2).below hb3).below hb4).below (below_drewN _ 1)).below hc_ap).below hb9).below hb10).below hb11).below (Below.refl _ _).drew).below hb12).below hb13).below (below_drewN _ 1)).below hc_ap2).below hb18).below hb19).below hb20).below hb21).below hb22).below hb23).below (Below.refl _ _).drew).below hb24).below hb25).below hb27).below (Below.refl _ _).drew) (by omega)).mono ?_
    rintro e w32 ⟨A_aa, c_aa, rfl, o_aa, hb32⟩
    refine ⟨_, rfl, Grow.of_below hb32, ?_⟩
    (refine ord_norm (fun K hK => ?_); go_simp; refine hK _ ?_; clear hK K)
    (refine ord_call (by rfl) (fun K hK => ?_); go_simp; refine hK _ _ ?_; clear hK K)
    refine (copiedC_any ((((((((((((((((((((((((((((H'.out.below ((Below.refl _ _).alloc (Nat.le_refl _) _)).below hb1).below (Below.refl _ _).drew).below hb2).below hb3).below hb4).below (below_drewN _ 1)).below hc_ap).below hb9).below hb10).below hb11).below (Below.refl _ _).drew).below hb12).below hb13).below (below_drewN _ 1)).below hc_ap2).below hb18).below hb19).below hb20).below hb21).below hb22).below hb23).below (Below.refl _ _).drew).below hb24).below hb25).below hb27).below (Below.refl _ _).drew).below hb32) (by omega)).mono ?_
    rintro e w33 ⟨A_ab, c_ab, rfl, o_ab, hb33⟩
    refine ⟨_, rfl, Grow.of_below hb33, ?_⟩
    (refine ord_norm (fun K hK => ?_); go_simp; refine hK _ ?_; clear hK K)
    (refine ord_call (by rfl) (fun K hK => ?_); go_simp; refine hK _ _ ?_; clear hK K)
    refine (HP7.out (o_aa.rd.below hb33) o_ab.rd).mono ?_
    rintro e w34 ⟨A_d, n_d, c_d, rfl, o_d, hb34⟩
    refine ⟨_, rfl, Grow.of_below hb34, ?_⟩
    (refine ord_norm (fun K hK => ?_); go_simp; refine hK _ ?_; clear hK K)
    repeat (refine ord_pas (by rfl) (fun K hK => ?_); go_simp; refine hK _ _ (fun w' hw' => (by first | (go_simp; done) | (go_simp; intro hh; cases hh))) ?_; clear hK K)
    refine ord_nil ?_
    clear g_f4 e_f4 g_f5 e_f5 g_f0 e_f0
    have ln_d : n_d ≤ n := by rw [← o_d.len, HD7.out.1]; exact Nat.le_refl _
    have ln_d2 : n ≤ n_d := by rw [← o_d.len, HD7.out.1]; exact Nat.le_refl _
    clear o_aa o_ab HP7
    go_wp2_with fail
    have e_f5 := ((((((((((((((((((((((((((((((At.box (i := 5) _ _ rfl).below hb1).below (Below.refl _ _).drew).below hb2).below hb3).below hb4).below (below_drewN _ 1)).below hc_ap).below hb9).below hb10).below hb11).below (Below.refl _ _).drew).below hb12).below hb13).below (below_drewN _ 1)).below hc_ap2).below hb18).below hb19).below hb20).below hb21).below hb22).below hb23).below (Below.refl _ _).drew).below hb24).below hb25).below hb27).below (Below.refl _ _).drew).below hb32).below hb33).below hb34).1
    have g_f5 := At.grow ((((((((((((((((((((((((((((((At.box (i := 5) _ _ rfl).below hb1).below (Below.refl _ _).drew).below hb2).below hb3).below hb4).below (below_drewN _ 1)).below hc_ap).below hb9).below hb10).below hb11).below (Below.refl _ _).drew).below hb12).below hb13).below (below_drewN _ 1)).below hc_ap2).below hb18).below hb19).below hb20).below hb21).below hb22).below hb23).below (Below.refl _ _).drew).below hb24).below hb25).below hb27).below (Below.refl _ _).drew).below hb32).below hb33).below hb34)
    have e_f0 := ((((((((((((((((((((((((((((((At.box (i := 0) _ _ rfl).below hb1).below (Below.refl _ _).drew).below hb2).below hb3).below hb4).below (below_drewN _ 1)).below hc_ap).below hb9).below hb10).below hb11).below (Below.refl _ _).drew).below hb12).below hb13).below (below_drewN _ 1)).below hc_ap2).below hb18).below hb19).below hb20).below hb21).below hb22).below hb23).below (Below.refl _ _).drew).below hb24).below hb25).below hb27).below (Below.refl _ _).drew).below hb32).below hb33).below hb34).1
    have g_f0 := At.grow ((((((((((((((((((((((((((((((At.box (i := 0) _ _ rfl).below hb1).below (Below.refl _ _).drew).below hb2).below hb3).below hb4).below (below_drewN _ 1)).below hc_ap).below hb9).below hb10).below hb11).below (Below.refl _ _).drew).below hb12).below hb13).below (below_drewN _ 1)).below hc_ap2).below hb18).below hb19).below hb20).below hb21).below hb22).below hb23).below (Below.refl _ _).drew).below hb24).below hb25).below hb27).below (Below.refl _ _).drew).below hb32).below hb33).below hb34)
    refine wp_region_grow none [(true, 0), (true, 1), (true, 3), (true, 4), (false, 2), (false, 5), (true, 6), (true, 7), (true, 8), (true, 9), (true, 10)] (by kernel_rfl) (by kernel_rfl) ?_
    repeat (refine ord_pas (by rfl) (fun K hK => ?_); go_simp; refine hK _ _ (fun w' hw' => (by first | (go_simp; done) | (go_simp; intro hh; cases hh))) ?_; clear hK K)
    (refine ord_call (by rfl) (fun K hK => ?_); go_simp; refine hK _ _ ?_; clear hK K)
    refine (copiedC_any (((((((((((((((((((((((((((((((H'.out.below ((Below.refl _ _).alloc (Nat.le_refl _) _)).below hb1).below (Below.refl _ _).drew).below hb2).below hb3).below hb4).below (below_drewN _ 1)).below hc_ap).below hb9).below hb10).below hb11).below (Below.refl _ _).drew).below hb12).below hb13).below (below_drewN _ 1)).below hc_ap2).below hb18).below hb19).below hb20).below hb21).below hb22).below hb23).below (Below.refl _ _).drew).below hb24).below hb25).below hb27).below (Below.refl _ _).drew).below hb32).below hb33).below hb34).below (Below.refl _ _).drew) (by omega)).mono ?_
    rintro e w35 ⟨A_ac, c_ac, rfl, o_ac, hb35⟩
    refine ⟨_, rfl, Grow.of_below hb35, ?_⟩
    (refine ord_norm (fun K hK => ?_); go_simp; refine hK _ ?_; clear hK K)
    (refine ord_call (by rfl) (fun K hK => ?_); go_simp; refine hK _ _ ?_; clear hK K)
    refine (HP8.out o_ac.rd).mono ?_
    rintro e w36 ⟨A_bw, n_bw, c_bw, rfl, o_bw, hb36⟩
    refine ⟨_, rfl, Grow.of_below hb36, ?_⟩
    (refine ord_norm (fun K hK => ?_); go_simp; refine hK _ ?_; clear hK K)
    repeat (refine ord_pas (by rfl) (fun K hK => ?_); go_simp; refine hK _ _ (fun w' hw' => (by first | (go_simp; done) | (go_simp; intro hh; cases hh))) ?_; clear hK K)
    refine ord_nil ?_
    clear g_f5 e_f5 g_f0 e_f0
    have ln_bw : n_bw ≤ m := by rw [← o_bw.len, HB8.out.1]; exact Nat.le_refl _
    clear o_ac HP8
    go_wp2_with fail
    refine (copiedC_any (((o_d.rd.below (Below.refl _ _).drew).below hb35).below hb36) (by omega)).mono ?_
    rintro e wd1 ⟨A_d1, c_d1, rfl, o_d1, hb_d1⟩
    go_wp2_with (at_builtin; (refine wpList_app rfl (.tmp 226) (.tmp 227) rfl elW (t := 22) (k := .u64) (ys := [0]) rfl rfl (o_d1.alloc _) (Rd.lit1 wd1 0) (by omega) (by have := hb_d1.size; simp; omega) ?_); intro A_da c_da wda o_da hb_da _ _)
    refine (copiedC_any (o_bw.rd.below ((hb_d1.alloc hb_d1.size _).trans hb_da)) (by omega)).mono ?_
    rintro e wb1 ⟨A_b3, c_b3, rfl, o_b3, hb_b3⟩
    go_wp2_with (at_builtin; (refine wpList_app rfl (.tmp 230) (.tmp 232) rfl elW (t := 22) (k := .u64) (ys := [up]) rfl rfl (o_b3.alloc _) (Rd.lit1 wb1 up) (by omega) (by have := hb_b3.size; simp; omega) ?_); intro A_ba c_ba wba o_ba hb_ba _ _)
    have hZ : val W (DD ++ [0]) + val W (BW ++ [up]) = val W (xs ++ [dv]) := by
      have h1 := HD7.out.2.2.2
      have h2 := HB8.out.2.2.2
      have h3 := H.out.len
      rw [h2, val_snoc, val_snoc, h3]
      omega
    have hZn : val W (xs ++ [dv]) < W ^ (n_d + 1) := by
      have := val_lt (HA.out.append (All.cons HD7.out.2.2.1 All.nil))
      have h3 := H.out.len
      have e : (xs ++ [dv]).length = n_d + 1 := by simp [h3]; omega
      rwa [e] at this
    obtain ⟨WH, lW, aW, vW, P9⟩ := whole_pack (n := n_d + 1) (m := n_bw + 1) (HD7.out.2.1.append (All.cons W_pos All.nil)) (HB8.out.2.1.append (All.cons HB8.out.2.2.1 All.nil)) (by have := o_d.len; simp [this]) (by have := o_bw.len; simp [this]) (by omega) (by omega) hZ hZn
    have HP9 := Lib.hid P9
    have HW9 := Lib.hid (And.intro lW (And.intro aW vW))
    clear P9 lW aW vW hZ hZn
    go_wp2_with fail
    have C9 := Lib.hid (HP9.out (o_da.rd.below ((hb_b3.alloc hb_b3.size _).trans hb_ba)) o_ba.rd)
    refine C9.out.mono ?_
    rintro e wwh ⟨A_wh, n_wh, c_wh, rfl, o_wh, hb_wh⟩
    have ln_wh : n_wh ≤ n_d + 1 := by rw [← o_wh.len, HW9.out.1]; exact Nat.le_refl _
    have ln_wh2 : n_d + 1 ≤ n_wh := by rw [← o_wh.len, HW9.out.1]; exact Nat.le_refl _
    have e4 := ((((((((((((((((((((((((((((((((((((At.box (i := 4) _ _ rfl).below hb1).below (Below.refl _ _).drew).below hb2).below hb3).below hb4).below (below_drewN _ 1)).below hc_ap).below hb9).below hb10).below hb11).below (Below.refl _ _).drew).below hb12).below hb13).below (below_drewN _ 1)).below hc_ap2).below hb18).below hb19).below hb20).below hb21).below hb22).below hb23).below (Below.refl _ _).drew).below hb24).below hb25).below hb27).below (Below.refl _ _).drew).below hb32).below hb33).below hb34).below (Below.refl _ _).drew).below hb35).below hb36).below ((hb_d1.alloc hb_d1.size _).trans hb_da)).below ((hb_b3.alloc hb_b3.size _).trans hb_ba)).below hb_wh).1
    have d10 : decide (n_wh ≤ n) = false := by simp; omega
    have HO9 := Lib.hid o_wh
    clear o_wh o_da o_ba o_d1 o_b3 o_d o_bw C9 HP9
    go_wp2_with fail
    go_loop [25] (fun v => v = .slice A_wh n_wh c_wh) (fun _ => 0)
    case atStart => rfl
    case round =>
      obtain rfl := hrel
      go_wp2_with fail
      refine (copiedC_any ((((((((((((((((((((((((((((((((((((H.out.below ((Below.refl _ _).alloc (Nat.le_refl _) _)).below hb1).below (Below.refl _ _).drew).below hb2).below hb3).below hb4).below (below_drewN _ 1)).below hc_ap).below hb9).below hb10).below hb11).below (Below.refl _ _).drew).below hb12).below hb13).below (below_drewN _ 1)).below hc_ap2).below hb18).below hb19).below hb20).below hb21).below hb22).below hb23).below (Below.refl _ _).drew).below hb24).below hb25).below hb27).below (Below.refl _ _).drew).below hb32).below hb33).below hb34).below (Below.refl _ _).drew).below hb35).below hb36).below ((hb_d1.alloc hb_d1.size _).trans hb_da)).below ((hb_b3.alloc hb_b3.size _).trans hb_ba)).below hb_wh) (by omega)).mono ?_
      rintro e wx ⟨A_x, c_x, rfl, o_x, hb_x⟩
      go_wp2_with (at_builtin; (refine wpList_app2g (by rfl) (.tmp 256) (.tmp 258) rfl elW Tryd.underlying23 (t := 22) (k := .u64) (ys := [dv]) rfl rfl (o_x.alloc _) (Rd.lit1 wx dv) (by omega) (by have := hb_x.size; simp; omega) ?_); intro A_xa c_xa wxa o_xa hb_xa)
      have EZ2 : Hid (cmpN (val W (xs ++ [dv])) (val W (xs ++ [dv])) = 0) := by show _ = _; rw [cmpN, if_neg (Nat.lt_irrefl _), if_neg (Nat.lt_irrefl _)]
      have bxa := Lib.hid ((hb_x.alloc hb_x.size _).trans hb_xa)
      have CW := Lib.hid (lcmp_any (HO9.out.rd.below bxa.out) o_xa.rd HW9.out.2.1 (HA.out.append (All.cons HD7.out.2.2.1 All.nil)) (by omega) (by omega))
      rw [HW9.out.2.2, EZ2.out] at CW
      go_wp2_with fail
      refine CW.out.mono ?_
      rintro e w' ⟨rfl, rfl⟩
      go_wp2
      go_ret
      exact ⟨rfl, bt (bt (bt (bt (bt (bt (bt (bt (bt (bt (bt (bt (bt (bt (bt (bt (bt (bt (bt (bt (bt (bt (bt (bt (bt (bt (bt (bt (bt (bt (bt (bt (bt (bt (bt (bt ((Below.refl _ _).alloc (Nat.le_refl _) _) hb1) (Below.refl _ _).drew) hb2) hb3) hb4) (below_drewN _ 1)) hc_ap) hb9) hb10) hb11) (Below.refl _ _).drew) hb12) hb13) (below_drewN _ 1)) hc_ap2) hb18) hb19) hb20) hb21) hb22) hb23) (Below.refl _ _).drew) hb24) hb25) hb27) (Below.refl _ _).drew) hb32) hb33) hb34) (Below.refl _ _).drew) hb35) hb36) ((hb_d1.alloc hb_d1.size _).trans hb_da)) ((hb_b3.alloc hb_b3.size _).trans hb_ba)) hb_wh) bxa.out⟩
end Go.Proofs.YtgiecdokjmcogaaDoor
