/-
  GcdRoots: Sqrt, Root, Count of any numbers, as the document's.
-/
import Derived.Test.YtbamhgpadfojfaaGreatGcdDv
import Derived.Test.YtbamhgpadfojfaaGreatGcdRt
namespace Go.Proofs.YtbamhgpadfojfaaGreat
open Go.RowKit
set_option linter.unusedVariables false

set_option maxHeartbeats 8000000 in
set_option maxRecDepth 100000 in
theorem gcdRoots_any {vA vB vK : Value} {A3 A4 : Option Addr} {n3 c3 n4 c4 a b k LA LB LK : Nat} {N : Int} {xs ys ls ms : List Nat} {w : World} (hA : Num w vA a LA) (hB : Num w vB b LB) (hK : Num w vK k LK) (h3 : Nums w A3 n3 c3 xs ls) (h4 : Nums w A4 n4 c4 ys ms) :
    Calls Tryz.prog 3 #[.agg #[vA, vB, vK, .slice A3 n3 c3, .slice A4 n4 c4, .int .i64 N]] w (Keeps (.bool true) w) := by
  have HA := Lib.hid hA
  have HB := Lib.hid hB
  have HK := Lib.hid hK
  have HS3 := Lib.hid h3
  have HS4 := Lib.hid h4
  obtain ⟨pA, nA, cA, _, rfl, _⟩ := id hA
  obtain ⟨pB, nB, cB, _, rfl, _⟩ := id hB
  obtain ⟨pK, nK, cK, _, rfl, _⟩ := id hK
  clear hA hB hK h3 h4
  go_enter Tryz.func3, Tryz.ntmps3
  go_wp2_with fail
  refine (fixed05_any).mono ?_
  rintro e w1 ⟨rfl, hb1⟩
  obtain ⟨z0a, z0b, z0c⟩ := ((Cel.box (i := 0) (v := .slice pA nA cA) (t := 26) (b := w.heap.size) w #[.slice pA nA cA, .slice pB nB cB, .slice pK nK cK, .slice A3 n3 c3, .slice A4 n4 c4, .int .i64 N] rfl (by simp)).below hb1)
  obtain ⟨z1a, z1b, z1c⟩ := ((Cel.box (i := 1) (v := .slice pB nB cB) (t := 26) (b := w.heap.size) w #[.slice pA nA cA, .slice pB nB cB, .slice pK nK cK, .slice A3 n3 c3, .slice A4 n4 c4, .int .i64 N] rfl (by simp)).below hb1)
  obtain ⟨z2a, z2b, z2c⟩ := ((Cel.box (i := 2) (v := .slice pK nK cK) (t := 26) (b := w.heap.size) w #[.slice pA nA cA, .slice pB nB cB, .slice pK nK cK, .slice A3 n3 c3, .slice A4 n4 c4, .int .i64 N] rfl (by simp)).below hb1)
  obtain ⟨z3a, z3b, z3c⟩ := ((Cel.box (i := 3) (v := .slice A3 n3 c3) (t := 26) (b := w.heap.size) w #[.slice pA nA cA, .slice pB nB cB, .slice pK nK cK, .slice A3 n3 c3, .slice A4 n4 c4, .int .i64 N] rfl (by simp)).below hb1)
  obtain ⟨z4a, z4b, z4c⟩ := ((Cel.box (i := 4) (v := .slice A4 n4 c4) (t := 26) (b := w.heap.size) w #[.slice pA nA cA, .slice pB nB cB, .slice pK nK cK, .slice A3 n3 c3, .slice A4 n4 c4, .int .i64 N] rfl (by simp)).below hb1)
  obtain ⟨z5a, z5b, z5c⟩ := ((Cel.box (i := 5) (v := .int .i64 N) (t := 26) (b := w.heap.size) w #[.slice pA nA cA, .slice pB nB cB, .slice pK nK cK, .slice A3 n3 c3, .slice A4 n4 c4, .int .i64 N] rfl (by simp)).below hb1)
  go_wp2_with fail
  refine (less05_any (bt ((Below.refl _ _).alloc (Nat.le_refl _) (.cells #[.slice pA nA cA, .slice pB nB cB, .slice pK nK cK, .slice A3 n3 c3, .slice A4 n4 c4, .int .i64 N] 26)) hb1) HA.out HB.out HK.out HS3.out HS4.out).mono ?_
  rintro e wl ⟨uA, uB, uK, pL, nL, cL, vsL, pM, nM, cM, vsM, rfl, ⟨hA, hB, hK⟩, ⟨hnL, oL, vL⟩, ⟨hnM, oM, vM⟩, hbl⟩
  have HOL := Lib.hid (And.intro oL (And.intro oM z0c))
  clear oL oM
  have HLB : Hid (LawB w #[.slice pA nA cA, .slice pB nB cB, .slice pK nK cK, .slice A3 n3 c3, .slice A4 n4 c4, .int .i64 N] wl) := by
    refine ⟨(bt (bt ((Below.refl _ _).alloc (Nat.le_refl _) (.cells #[.slice pA nA cA, .slice pB nB cB, .slice pK nK cK, .slice A3 n3 c3, .slice A4 n4 c4, .int .i64 N] 26)) hb1) hbl), fun i v hv => ?_⟩
    rcases six hv with ⟨rfl, rfl⟩ | ⟨rfl, rfl⟩ | ⟨rfl, rfl⟩ | ⟨rfl, rfl⟩ | ⟨rfl, rfl⟩ | ⟨rfl, rfl⟩
    · exact (((Cel.box (i := 0) (v := .slice pA nA cA) (t := 26) (b := w.heap.size) w #[.slice pA nA cA, .slice pB nB cB, .slice pK nK cK, .slice A3 n3 c3, .slice A4 n4 c4, .int .i64 N] rfl (by simp)).below hb1).below hbl)
    · exact (((Cel.box (i := 1) (v := .slice pB nB cB) (t := 26) (b := w.heap.size) w #[.slice pA nA cA, .slice pB nB cB, .slice pK nK cK, .slice A3 n3 c3, .slice A4 n4 c4, .int .i64 N] rfl (by simp)).below hb1).below hbl)
    · exact (((Cel.box (i := 2) (v := .slice pK nK cK) (t := 26) (b := w.heap.size) w #[.slice pA nA cA, .slice pB nB cB, .slice pK nK cK, .slice A3 n3 c3, .slice A4 n4 c4, .int .i64 N] rfl (by simp)).below hb1).below hbl)
    · exact (((Cel.box (i := 3) (v := .slice A3 n3 c3) (t := 26) (b := w.heap.size) w #[.slice pA nA cA, .slice pB nB cB, .slice pK nK cK, .slice A3 n3 c3, .slice A4 n4 c4, .int .i64 N] rfl (by simp)).below hb1).below hbl)
    · exact (((Cel.box (i := 4) (v := .slice A4 n4 c4) (t := 26) (b := w.heap.size) w #[.slice pA nA cA, .slice pB nB cB, .slice pK nK cK, .slice A3 n3 c3, .slice A4 n4 c4, .int .i64 N] rfl (by simp)).below hb1).below hbl)
    · exact (((Cel.box (i := 5) (v := .int .i64 N) (t := 26) (b := w.heap.size) w #[.slice pA nA cA, .slice pB nB cB, .slice pK nK cK, .slice A3 n3 c3, .slice A4 n4 c4, .int .i64 N] rfl (by simp)).below hb1).below hbl)
  clear z0a z0b z0c z1a z1b z1c z2a z2b z2c z3a z3b z3c z4a z4b z4c z5a z5b z5c
  obtain ⟨z0a, z0b, z0c⟩ := HLB.out.2 0 _ rfl
  obtain ⟨z1a, z1b, z1c⟩ := HLB.out.2 1 _ rfl
  obtain ⟨z2a, z2b, z2c⟩ := HLB.out.2 2 _ rfl
  obtain ⟨z3a, z3b, z3c⟩ := HLB.out.2 3 _ rfl
  obtain ⟨z4a, z4b, z4c⟩ := HLB.out.2 4 _ rfl
  obtain ⟨z5a, z5b, z5c⟩ := HLB.out.2 5 _ rfl
  obtain ⟨pA', nA', cA', _, rfl, _⟩ := id hA
  obtain ⟨pB', nB', cB', _, rfl, _⟩ := id hB
  obtain ⟨pK', nK', cK', _, rfl, _⟩ := id hK
  generalize a % W ^ 30 = a at *
  generalize b % W ^ 30 = b at *
  generalize k % W ^ 30 = k at *
  have HNA := Lib.hid hA
  have HNB := Lib.hid hB
  have HNK := Lib.hid hK
  have HVL := Lib.hid vL
  have HVM := Lib.hid vM
  clear hA hB hK vL vM
  go_wp2_with fail
  obtain ⟨wz, hwz⟩ : ∃ wz : World, wz = ((((((wl.setCell ⟨w.heap.size, 0, none⟩ (.slice pA' nA' cA')).setCell ⟨w.heap.size, 1, none⟩ (.slice pB' nB' cB')).setCell ⟨w.heap.size, 2, none⟩ (.slice pK' nK' cK')).setCell ⟨w.heap.size, 3, none⟩ (.slice pL nL cL)).setCell ⟨w.heap.size, 4, none⟩ (.slice pM nM cM)).setCell ⟨w.heap.size, 5, none⟩ (.int .i64 N)) := ⟨_, rfl⟩
  rw [← hwz]
  have HZ : Hid (LawB w #[.slice pA' nA' cA', .slice pB' nB' cB', .slice pK' nK' cK', .slice pL nL cL, .slice pM nM cM, .int .i64 N] wz) := by
    show LawB _ _ _
    rw [hwz]; exact HLB.out.set6
  have HNL : Hid (Nums wz pL nL cL (vsL.map (mval w)) (List.replicate nL 30)) := by
    show Nums _ _ _ _ _ _
    refine HVL.out.nums (B := w.heap.size + 1) (T := 23) ?_ HZ.out.1
    rw [hwz]
    exact ((((((HOL.out.1.mono HOL.out.2.2).set_low (p := ⟨w.heap.size, 0, none⟩) (by simp) _).set_low (p := ⟨w.heap.size, 1, none⟩) (by simp) _).set_low (p := ⟨w.heap.size, 2, none⟩) (by simp) _).set_low (p := ⟨w.heap.size, 3, none⟩) (by simp) _).set_low (p := ⟨w.heap.size, 4, none⟩) (by simp) _).set_low (p := ⟨w.heap.size, 5, none⟩) (by simp) _
  have HNM : Hid (Nums wz pM nM cM (vsM.map (mval w)) (List.replicate nM 30)) := by
    show Nums _ _ _ _ _ _
    refine HVM.out.nums (B := w.heap.size + 1) (T := 23) ?_ HZ.out.1
    rw [hwz]
    exact ((((((HOL.out.2.1.mono HOL.out.2.2).set_low (p := ⟨w.heap.size, 0, none⟩) (by simp) _).set_low (p := ⟨w.heap.size, 1, none⟩) (by simp) _).set_low (p := ⟨w.heap.size, 2, none⟩) (by simp) _).set_low (p := ⟨w.heap.size, 3, none⟩) (by simp) _).set_low (p := ⟨w.heap.size, 4, none⟩) (by simp) _).set_low (p := ⟨w.heap.size, 5, none⟩) (by simp) _
  clear z0a z0b z0c z1a z1b z1c z2a z2b z2c z3a z3b z3c z4a z4b z4c z5a z5b z5c hwz
  generalize vsL.map (mval w) = xs at *
  generalize vsM.map (mval w) = ys at *
  have HLL := Lib.hid HNL.out.1
  have HLM := Lib.hid HNM.out.1
  have hsL : lsum (List.replicate nL 30) ≤ 600 := by rw [lsum_replicate]; omega
  have hsM : lsum (List.replicate nM 30) ≤ 600 := by rw [lsum_replicate]; omega
  obtain ⟨xr, exr, err, CR1, CR2⟩ := root_both a N
  obtain ⟨xc, cn, erc, CC1, CC2⟩ := count_both a k
  have HR1 := Lib.hid CR1
  have HR2 := Lib.hid CR2
  have HC1 := Lib.hid CC1
  have HC2 := Lib.hid CC2
  clear CR1 CR2 CC1 CC2
  have e0 := (At.of (HZ.out.2 0 _ rfl)).1
  go_wp2_with fail
  refine (copied05_any (HNA.out.below HZ.out.1) (by omega)).mono ?_
  rintro e w1 ⟨A_ca, n_ca, c_ca, xs_ca, rfl, o_ca, a_ca, v_ca, hb1, l_ca⟩
  have V_ca := Lib.hid v_ca
  clear v_ca
  go_wp2_with fail
  refine (gsqrt_any (o_ca.numv a_ca V_ca.out l_ca) (by omega)).mono ?_
  rintro e w2 ⟨A_s1, n_s1, c_s1, A_t1, n_t1, c_t1, rfl, o_s1, o_t1, hb2, l_s1, l_t1⟩
  clear e0
  have e0 := (((At.of (HZ.out.2 0 _ rfl)).below hb1).below hb2).1
  go_wp2_with fail
  refine (sqrt5_any (((HNA.out.below HZ.out.1).below hb1).below hb2) (by omega) (by omega)).mono ?_
  rintro e w3 ⟨A_s2, n_s2, c_s2, A_t2, n_t2, c_t2, rfl, o_s2, o_t2, hb3, l_s2, l_t2⟩
  clear e0
  go_wp2_with fail
  refine (same5k_any (o_s1.rd.below hb3) o_s2.rd rfl (by omega)).mono ?_
  rintro e w4 ⟨rfl, hb4⟩
  go_wp2_with fail
  refine (same5k_any ((o_t1.rd.below hb3).below hb4) (o_t2.rd.below hb4) rfl (by omega)).mono ?_
  rintro e w5 ⟨rfl, hb5⟩
  clear o_ca o_s1 o_t1 o_s2 o_t2
  go_wp2_with fail
  have e_f0 := ((((((At.of (HZ.out.2 0 _ rfl)).below hb1).below hb2).below hb3).below hb4).below hb5).1
  have g_f0 := At.grow ((((((At.of (HZ.out.2 0 _ rfl)).below hb1).below hb2).below hb3).below hb4).below hb5)
  have e_f5 := ((((((At.of (HZ.out.2 5 _ rfl)).below hb1).below hb2).below hb3).below hb4).below hb5).1
  have g_f5 := At.grow ((((((At.of (HZ.out.2 5 _ rfl)).below hb1).below hb2).below hb3).below hb4).below hb5)
  refine wp_region_grow none [(true, 0), (true, 1), (true, 3), (true, 4), (false, 2), (false, 5), (true, 6), (true, 7), (true, 8), (true, 9), (true, 10), (true, 11), (true, 12)] (by kernel_rfl) (by kernel_rfl) ?_
  repeat (refine ord_pas (by rfl) (fun K hK => ?_); go_simp; refine hK _ _ (fun w' hw' => (by first | (go_simp; done) | (go_simp; intro hh; cases hh))) ?_; clear hK K)
  (refine ord_call (by rfl) (fun K hK => ?_); go_simp; refine hK _ _ ?_; clear hK K)
  refine (copied05_any (((((((HNA.out.below HZ.out.1).below hb1).below hb2).below hb3).below hb4).below hb5).below (Below.refl _ _).drew) (by omega)).mono ?_
  rintro e w6 ⟨A_cb, n_cb, c_cb, xs_cb, rfl, o_cb, a_cb, v_cb, hb6, l_cb⟩
  have V_cb := Lib.hid v_cb
  clear v_cb
  refine ⟨_, rfl, Grow.of_below hb6, ?_⟩
  (refine ord_norm (fun K hK => ?_); go_simp; refine hK _ ?_; clear hK K)
  (refine ord_call (by rfl) (fun K hK => ?_); go_simp; refine hK _ _ ?_; clear hK K)
  refine (HR1.out _ _ (o_cb.numv a_cb V_cb.out l_cb)).mono ?_
  rintro e w7 ⟨A_r1, n_r1, c_r1, rfl, hb7, l_r1, o_r1⟩
  refine ⟨_, rfl, Grow.of_below hb7, ?_⟩
  (refine ord_norm (fun K hK => ?_); go_simp; refine hK _ ?_; clear hK K)
  repeat (refine ord_pas (by rfl) (fun K hK => ?_); go_simp; refine hK _ _ (fun w' hw' => (by first | (go_simp; done) | (go_simp; intro hh; cases hh))) ?_; clear hK K)
  refine ord_nil ?_
  clear g_f0 e_f0 g_f5 e_f5
  have e0 := (((((((((At.of (HZ.out.2 0 _ rfl)).below hb1).below hb2).below hb3).below hb4).below hb5).below (Below.refl _ _).drew).below hb6).below hb7).1
  have e5 := (((((((((At.of (HZ.out.2 5 _ rfl)).below hb1).below hb2).below hb3).below hb4).below hb5).below (Below.refl _ _).drew).below hb6).below hb7).1
  go_wp2_with fail
  refine (HR2.out _ _ (((((((((HNA.out.below HZ.out.1).below hb1).below hb2).below hb3).below hb4).below hb5).below (Below.refl _ _).drew).below hb6).below hb7)).mono ?_
  rintro e w8 ⟨A_r2, n_r2, c_r2, rfl, hb8, l_r2, o_r2⟩
  clear e0 e5
  go_wp2_with fail
  refine (same5k_any (o_r1.below hb8) o_r2 rfl (by omega)).mono ?_
  rintro e w9 ⟨rfl, hb9⟩
  clear o_cb o_r1 o_r2
  go_wp2_with fail
  have e_f0 := (((((((((((At.of (HZ.out.2 0 _ rfl)).below hb1).below hb2).below hb3).below hb4).below hb5).below (Below.refl _ _).drew).below hb6).below hb7).below hb8).below hb9).1
  have g_f0 := At.grow (((((((((((At.of (HZ.out.2 0 _ rfl)).below hb1).below hb2).below hb3).below hb4).below hb5).below (Below.refl _ _).drew).below hb6).below hb7).below hb8).below hb9)
  have e_f2 := (((((((((((At.of (HZ.out.2 2 _ rfl)).below hb1).below hb2).below hb3).below hb4).below hb5).below (Below.refl _ _).drew).below hb6).below hb7).below hb8).below hb9).1
  have g_f2 := At.grow (((((((((((At.of (HZ.out.2 2 _ rfl)).below hb1).below hb2).below hb3).below hb4).below hb5).below (Below.refl _ _).drew).below hb6).below hb7).below hb8).below hb9)
  refine wp_region_grow none [(true, 0), (true, 1), (true, 3), (true, 4), (false, 2), (false, 5), (false, 6), (true, 7), (true, 8), (true, 9), (true, 10), (true, 11), (true, 12), (true, 13)] (by kernel_rfl) (by kernel_rfl) ?_
  repeat (refine ord_pas (by rfl) (fun K hK => ?_); go_simp; refine hK _ _ (fun w' hw' => (by first | (go_simp; done) | (go_simp; intro hh; cases hh))) ?_; clear hK K)
  (refine ord_call (by rfl) (fun K hK => ?_); go_simp; refine hK _ _ ?_; clear hK K)
  refine (copied05_any ((((((((((((HNA.out.below HZ.out.1).below hb1).below hb2).below hb3).below hb4).below hb5).below (Below.refl _ _).drew).below hb6).below hb7).below hb8).below hb9).below (Below.refl _ _).drew) (by omega)).mono ?_
  rintro e w10 ⟨A_cc, n_cc, c_cc, xs_cc, rfl, o_cc, a_cc, v_cc, hb10, l_cc⟩
  have V_cc := Lib.hid v_cc
  clear v_cc
  refine ⟨_, rfl, Grow.of_below hb10, ?_⟩
  (refine ord_norm (fun K hK => ?_); go_simp; refine hK _ ?_; clear hK K)
  (refine ord_call (by rfl) (fun K hK => ?_); go_simp; refine hK _ _ ?_; clear hK K)
  refine (copied05_any (((((((((((((HNK.out.below HZ.out.1).below hb1).below hb2).below hb3).below hb4).below hb5).below (Below.refl _ _).drew).below hb6).below hb7).below hb8).below hb9).below (Below.refl _ _).drew).below hb10) (by omega)).mono ?_
  rintro e w11 ⟨A_cd, n_cd, c_cd, xs_cd, rfl, o_cd, a_cd, v_cd, hb11, l_cd⟩
  have V_cd := Lib.hid v_cd
  clear v_cd
  refine ⟨_, rfl, Grow.of_below hb11, ?_⟩
  (refine ord_norm (fun K hK => ?_); go_simp; refine hK _ ?_; clear hK K)
  (refine ord_call (by rfl) (fun K hK => ?_); go_simp; refine hK _ _ ?_; clear hK K)
  refine (HC1.out _ _ _ ((o_cc.numv a_cc V_cc.out l_cc).below hb11) (o_cd.numv a_cd V_cd.out l_cd)).mono ?_
  rintro e w12 ⟨A_c1, n_c1, c_c1, rfl, hb12, l_c1, o_c1⟩
  refine ⟨_, rfl, Grow.of_below hb12, ?_⟩
  (refine ord_norm (fun K hK => ?_); go_simp; refine hK _ ?_; clear hK K)
  repeat (refine ord_pas (by rfl) (fun K hK => ?_); go_simp; refine hK _ _ (fun w' hw' => (by first | (go_simp; done) | (go_simp; intro hh; cases hh))) ?_; clear hK K)
  refine ord_nil ?_
  clear g_f0 e_f0 g_f2 e_f2
  have e0 := (((((((((((((((At.of (HZ.out.2 0 _ rfl)).below hb1).below hb2).below hb3).below hb4).below hb5).below (Below.refl _ _).drew).below hb6).below hb7).below hb8).below hb9).below (Below.refl _ _).drew).below hb10).below hb11).below hb12).1
  have e2 := (((((((((((((((At.of (HZ.out.2 2 _ rfl)).below hb1).below hb2).below hb3).below hb4).below hb5).below (Below.refl _ _).drew).below hb6).below hb7).below hb8).below hb9).below (Below.refl _ _).drew).below hb10).below hb11).below hb12).1
  go_wp2_with fail
  refine (HC2.out _ _ _ (((((((((((((((HNA.out.below HZ.out.1).below hb1).below hb2).below hb3).below hb4).below hb5).below (Below.refl _ _).drew).below hb6).below hb7).below hb8).below hb9).below (Below.refl _ _).drew).below hb10).below hb11).below hb12) (((((((((((((((HNK.out.below HZ.out.1).below hb1).below hb2).below hb3).below hb4).below hb5).below (Below.refl _ _).drew).below hb6).below hb7).below hb8).below hb9).below (Below.refl _ _).drew).below hb10).below hb11).below hb12)).mono ?_
  rintro e w13 ⟨A_c2, n_c2, c_c2, rfl, hb13, l_c2, o_c2⟩
  clear e0 e2
  go_wp2_with fail
  refine (same5k_any (o_c1.below hb13) o_c2 rfl (by omega)).mono ?_
  rintro e w14 ⟨rfl, hb14⟩
  go_wp2
  go_ret
  exact ⟨rfl, (bt (bt (bt (bt (bt (bt (bt (bt (bt (bt (bt (bt (bt (bt (bt (bt HZ.out.1 hb1) hb2) hb3) hb4) hb5) (Below.refl _ _).drew) hb6) hb7) hb8) hb9) (Below.refl _ _).drew) hb10) hb11) hb12) hb13) hb14)⟩
end Go.Proofs.YtbamhgpadfojfaaGreat
