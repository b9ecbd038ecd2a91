/-
  GcdMemory.
-/
import Derived.Test.YtamfhmmcnlollaaGreatGcdMB
import Derived.Test.YtamfhmmcnlollaaGreatGcdDv
namespace Go.Proofs.YtamfhmmcnlollaaGreat
open Go.RowKit
set_option linter.unusedVariables false

set_option maxHeartbeats 16000000 in
set_option maxRecDepth 100000 in
theorem gcdMemory_any {vA vB vK : Value} {A3 A4 : Option Addr} {n3 c3 n4 c4 a b k LA LB LK : Nat} {N : Int} {xs ys ls ms : List Nat} {w : World} (hA : Num w vA a LA) (hB : Num w vB b LB) (hK : Num w vK k LK) (h3 : Nums w A3 n3 c3 xs ls) (h4 : Nums w A4 n4 c4 ys ms) :
    Calls Tryz.prog 3 #[.agg #[vA, vB, vK, .slice A3 n3 c3, .slice A4 n4 c4, .int .i64 N]] w (Keeps (.bool true) w) := by
  obtain ⟨kM, hkM⟩ : ∃ kM : Int, kM = (if 0 > N then 0 else N) := ⟨_, rfl⟩
  obtain ⟨kN, hkN⟩ : ∃ kN : Int, kN = (if 9 < kM then 9 else kM) := ⟨_, rfl⟩
  have hmax := fun (ts : Array TypeId) (t : TypeId) (w : World) => (show (Builtin.max_ ts t #[.int .i64 N, .int .i64 0]).run Tryz.prog w = .ok (.int .i64 kM) w by rw [run_max_int2, hkM])
  have hmin := fun (ts : Array TypeId) (t : TypeId) (w : World) => (show (Builtin.min_ ts t #[.int .i64 kM, .int .i64 9]).run Tryz.prog w = .ok (.int .i64 kN) w by rw [run_min_int2, hkN])
  clear hkM hkN
  have HA := Lib.hid hA
  have HB := Lib.hid hB
  have HK := Lib.hid hK
  have HS3 := Lib.hid h3
  have HS4 := Lib.hid h4
  obtain ⟨pA, nA, cA, _, rfl, _⟩ := id hA
  obtain ⟨pB, nB, cB, _, rfl, _⟩ := id hB
  obtain ⟨pK, nK, cK, _, rfl, _⟩ := id hK
  clear hA hB hK h3 h4
  go_enter Tryz.func3, Tryz.ntmps3
  go_wp2_with fail
  refine (fixed05_any).mono ?_
  rintro e w1 ⟨rfl, hb1⟩
  obtain ⟨z0a, z0b, z0c⟩ := ((Cel.box (i := 0) (v := .slice pA nA cA) (t := 26) (b := w.heap.size) w #[.slice pA nA cA, .slice pB nB cB, .slice pK nK cK, .slice A3 n3 c3, .slice A4 n4 c4, .int .i64 N] rfl (by simp)).below hb1)
  obtain ⟨z1a, z1b, z1c⟩ := ((Cel.box (i := 1) (v := .slice pB nB cB) (t := 26) (b := w.heap.size) w #[.slice pA nA cA, .slice pB nB cB, .slice pK nK cK, .slice A3 n3 c3, .slice A4 n4 c4, .int .i64 N] rfl (by simp)).below hb1)
  obtain ⟨z2a, z2b, z2c⟩ := ((Cel.box (i := 2) (v := .slice pK nK cK) (t := 26) (b := w.heap.size) w #[.slice pA nA cA, .slice pB nB cB, .slice pK nK cK, .slice A3 n3 c3, .slice A4 n4 c4, .int .i64 N] rfl (by simp)).below hb1)
  obtain ⟨z3a, z3b, z3c⟩ := ((Cel.box (i := 3) (v := .slice A3 n3 c3) (t := 26) (b := w.heap.size) w #[.slice pA nA cA, .slice pB nB cB, .slice pK nK cK, .slice A3 n3 c3, .slice A4 n4 c4, .int .i64 N] rfl (by simp)).below hb1)
  obtain ⟨z4a, z4b, z4c⟩ := ((Cel.box (i := 4) (v := .slice A4 n4 c4) (t := 26) (b := w.heap.size) w #[.slice pA nA cA, .slice pB nB cB, .slice pK nK cK, .slice A3 n3 c3, .slice A4 n4 c4, .int .i64 N] rfl (by simp)).below hb1)
  obtain ⟨z5a, z5b, z5c⟩ := ((Cel.box (i := 5) (v := .int .i64 N) (t := 26) (b := w.heap.size) w #[.slice pA nA cA, .slice pB nB cB, .slice pK nK cK, .slice A3 n3 c3, .slice A4 n4 c4, .int .i64 N] rfl (by simp)).below hb1)
  go_wp2_with fail
  refine (less05_any (bt ((Below.refl _ _).alloc (Nat.le_refl _) (.cells #[.slice pA nA cA, .slice pB nB cB, .slice pK nK cK, .slice A3 n3 c3, .slice A4 n4 c4, .int .i64 N] 26)) hb1) HA.out HB.out HK.out HS3.out HS4.out).mono ?_
  rintro e wl ⟨uA, uB, uK, pL, nL, cL, vsL, pM, nM, cM, vsM, rfl, ⟨hA, hB, hK⟩, ⟨hnL, oL, vL⟩, ⟨hnM, oM, vM⟩, hbl⟩
  have HOL := Lib.hid (And.intro oL (And.intro oM z0c))
  clear oL oM
  have HLB : Hid (LawB w #[.slice pA nA cA, .slice pB nB cB, .slice pK nK cK, .slice A3 n3 c3, .slice A4 n4 c4, .int .i64 N] wl) := by
    refine ⟨(bt (bt ((Below.refl _ _).alloc (Nat.le_refl _) (.cells #[.slice pA nA cA, .slice pB nB cB, .slice pK nK cK, .slice A3 n3 c3, .slice A4 n4 c4, .int .i64 N] 26)) hb1) hbl), fun i v hv => ?_⟩
    rcases six hv with ⟨rfl, rfl⟩ | ⟨rfl, rfl⟩ | ⟨rfl, rfl⟩ | ⟨rfl, rfl⟩ | ⟨rfl, rfl⟩ | ⟨rfl, rfl⟩
    · exact (((Cel.box (i := 0) (v := .slice pA nA cA) (t := 26) (b := w.heap.size) w #[.slice pA nA cA, .slice pB nB cB, .slice pK nK cK, .slice A3 n3 c3, .slice A4 n4 c4, .int .i64 N] rfl (by simp)).below hb1).below hbl)
    · exact (((Cel.box (i := 1) (v := .slice pB nB cB) (t := 26) (b := w.heap.size) w #[.slice pA nA cA, .slice pB nB cB, .slice pK nK cK, .slice A3 n3 c3, .slice A4 n4 c4, .int .i64 N] rfl (by simp)).below hb1).below hbl)
    · exact (((Cel.box (i := 2) (v := .slice pK nK cK) (t := 26) (b := w.heap.size) w #[.slice pA nA cA, .slice pB nB cB, .slice pK nK cK, .slice A3 n3 c3, .slice A4 n4 c4, .int .i64 N] rfl (by simp)).below hb1).below hbl)
    · exact (((Cel.box (i := 3) (v := .slice A3 n3 c3) (t := 26) (b := w.heap.size) w #[.slice pA nA cA, .slice pB nB cB, .slice pK nK cK, .slice A3 n3 c3, .slice A4 n4 c4, .int .i64 N] rfl (by simp)).below hb1).below hbl)
    · exact (((Cel.box (i := 4) (v := .slice A4 n4 c4) (t := 26) (b := w.heap.size) w #[.slice pA nA cA, .slice pB nB cB, .slice pK nK cK, .slice A3 n3 c3, .slice A4 n4 c4, .int .i64 N] rfl (by simp)).below hb1).below hbl)
    · exact (((Cel.box (i := 5) (v := .int .i64 N) (t := 26) (b := w.heap.size) w #[.slice pA nA cA, .slice pB nB cB, .slice pK nK cK, .slice A3 n3 c3, .slice A4 n4 c4, .int .i64 N] rfl (by simp)).below hb1).below hbl)
  clear z0a z0b z0c z1a z1b z1c z2a z2b z2c z3a z3b z3c z4a z4b z4c z5a z5b z5c
  obtain ⟨z0a, z0b, z0c⟩ := HLB.out.2 0 _ rfl
  obtain ⟨z1a, z1b, z1c⟩ := HLB.out.2 1 _ rfl
  obtain ⟨z2a, z2b, z2c⟩ := HLB.out.2 2 _ rfl
  obtain ⟨z3a, z3b, z3c⟩ := HLB.out.2 3 _ rfl
  obtain ⟨z4a, z4b, z4c⟩ := HLB.out.2 4 _ rfl
  obtain ⟨z5a, z5b, z5c⟩ := HLB.out.2 5 _ rfl
  obtain ⟨pA', nA', cA', _, rfl, _⟩ := id hA
  obtain ⟨pB', nB', cB', _, rfl, _⟩ := id hB
  obtain ⟨pK', nK', cK', _, rfl, _⟩ := id hK
  generalize a % W ^ 30 = a at *
  generalize b % W ^ 30 = b at *
  generalize k % W ^ 30 = k at *
  have HNA := Lib.hid hA
  have HNB := Lib.hid hB
  have HNK := Lib.hid hK
  have HVL := Lib.hid vL
  have HVM := Lib.hid vM
  clear hA hB hK vL vM
  go_wp2_with fail
  obtain ⟨wz, hwz⟩ : ∃ wz : World, wz = ((((((wl.setCell ⟨w.heap.size, 0, none⟩ (.slice pA' nA' cA')).setCell ⟨w.heap.size, 1, none⟩ (.slice pB' nB' cB')).setCell ⟨w.heap.size, 2, none⟩ (.slice pK' nK' cK')).setCell ⟨w.heap.size, 3, none⟩ (.slice pL nL cL)).setCell ⟨w.heap.size, 4, none⟩ (.slice pM nM cM)).setCell ⟨w.heap.size, 5, none⟩ (.int .i64 N)) := ⟨_, rfl⟩
  rw [← hwz]
  have HZ : Hid (LawB w #[.slice pA' nA' cA', .slice pB' nB' cB', .slice pK' nK' cK', .slice pL nL cL, .slice pM nM cM, .int .i64 N] wz) := by
    show LawB _ _ _
    rw [hwz]; exact HLB.out.set6
  have HNL : Hid (Nums wz pL nL cL (vsL.map (mval w)) (List.replicate nL 30)) := by
    show Nums _ _ _ _ _ _
    refine HVL.out.nums (B := w.heap.size + 1) (T := 23) ?_ HZ.out.1
    rw [hwz]
    exact ((((((HOL.out.1.mono HOL.out.2.2).set_low (p := ⟨w.heap.size, 0, none⟩) (by simp) _).set_low (p := ⟨w.heap.size, 1, none⟩) (by simp) _).set_low (p := ⟨w.heap.size, 2, none⟩) (by simp) _).set_low (p := ⟨w.heap.size, 3, none⟩) (by simp) _).set_low (p := ⟨w.heap.size, 4, none⟩) (by simp) _).set_low (p := ⟨w.heap.size, 5, none⟩) (by simp) _
  have HNM : Hid (Nums wz pM nM cM (vsM.map (mval w)) (List.replicate nM 30)) := by
    show Nums _ _ _ _ _ _
    refine HVM.out.nums (B := w.heap.size + 1) (T := 23) ?_ HZ.out.1
    rw [hwz]
    exact ((((((HOL.out.2.1.mono HOL.out.2.2).set_low (p := ⟨w.heap.size, 0, none⟩) (by simp) _).set_low (p := ⟨w.heap.size, 1, none⟩) (by simp) _).set_low (p := ⟨w.heap.size, 2, none⟩) (by simp) _).set_low (p := ⟨w.heap.size, 3, none⟩) (by simp) _).set_low (p := ⟨w.heap.size, 4, none⟩) (by simp) _).set_low (p := ⟨w.heap.size, 5, none⟩) (by simp) _
  clear z0a z0b z0c z1a z1b z1c z2a z2b z2c z3a z3b z3c z4a z4b z4c z5a z5b z5c hwz
  generalize vsL.map (mval w) = xs at *
  generalize vsM.map (mval w) = ys at *
  have HLL := Lib.hid HNL.out.1
  have HLM := Lib.hid HNM.out.1
  have hsL : lsum (List.replicate nL 30) ≤ 600 := by rw [lsum_replicate]; omega
  have hsM : lsum (List.replicate nM 30) ≤ 600 := by rw [lsum_replicate]; omega
  obtain ⟨_, _, _, xa, ea, RA0, AA, VA, LA1⟩ := id HNA.out
  cases ea
  obtain ⟨_, _, _, xb, eb, RB0, AB, VB, LB1⟩ := id HNB.out
  cases eb
  obtain ⟨_, _, _, xk, ek, RK0, AK, VK, LK1⟩ := id HNK.out
  cases ek
  have HRA := Lib.hid RA0
  have HRB := Lib.hid RB0
  have HRK := Lib.hid RK0
  have HVA := Lib.hid (And.intro AA VA)
  have HVB := Lib.hid (And.intro AB VB)
  have HVK := Lib.hid (And.intro AK VK)
  obtain ⟨ssL, FL, rvL, hlL, hdL, hfL⟩ := HNL.out.heads
  obtain ⟨ssM, FM, rvM, hlM, hdM, hfM⟩ := HNM.out.heads
  have HSL := Lib.hid (And.intro rvL (And.intro hlL (And.intro hdL hfL)))
  have HSM := Lib.hid (And.intro rvM (And.intro hlM (And.intro hdM hfM)))
  clear RA0 RB0 RK0 AA VA AB VB AK VK rvL hlL hdL hfL rvM hlM hdM hfM
  have HKL : Hid (∀ (i : Nat) (s : Sh), ssL[i]? = some s → s.2.1 ≤ 1048576) := fun i s hi => by
    have h1 := (HSL.out.2.2.1 i s hi).len
    have h2 := (HSL.out.2.2.2 i (by have := (List.getElem?_eq_some_iff.1 hi).1; have := HSL.out.2.1; omega)).2.2
    omega
  have HKM : Hid (∀ (i : Nat) (s : Sh), ssM[i]? = some s → s.2.1 ≤ 1048576) := fun i s hi => by
    have h1 := (HSM.out.2.2.1 i s hi).len
    have h2 := (HSM.out.2.2.2 i (by have := (List.getElem?_eq_some_iff.1 hi).1; have := HSM.out.2.1; omega)).2.2
    omega
  have x5 := (At.of (HZ.out.2 5 _ rfl)).1
  go_wp2_with fail
  have e_f0 := (At.of (HZ.out.2 0 _ rfl)).1
  have g_f0 := At.grow (At.of (HZ.out.2 0 _ rfl))
  have e_f1 := (At.of (HZ.out.2 1 _ rfl)).1
  have g_f1 := At.grow (At.of (HZ.out.2 1 _ rfl))
  have e_f2 := (At.of (HZ.out.2 2 _ rfl)).1
  have g_f2 := At.grow (At.of (HZ.out.2 2 _ rfl))
  refine wp_region_grow none [(true, 0), (true, 1), (true, 3), (true, 4), (true, 6), (true, 7), (false, 2), (false, 5), (false, 8), (true, 9), (true, 10), (true, 11)] (by kernel_rfl) (by kernel_rfl) ?_
  repeat (refine ord_pas (by rfl) (fun K hK => ?_); go_simp; refine hK _ _ (fun w' hw' => (by first | (go_simp; done) | (go_simp; intro hh; cases hh))) ?_; clear hK K)
  clear x5
  (refine ord_call (by rfl) (fun K hK => ?_); go_simp; refine hK _ _ ?_; clear hK K)
  refine (room05_any ((HRA.out.below HZ.out.1).below (Below.refl _ _).drew) (by omega)).mono ?_
  rintro e w11 ⟨A_ra, c_ra, rfl, o_ra, hb11⟩
  refine ⟨_, rfl, (Grow.of_below hb11), ?_⟩
  (refine ord_norm (fun K hK => ?_); go_simp; refine hK _ ?_; clear hK K)
  (refine ord_call (by rfl) (fun K hK => ?_); go_simp; refine hK _ _ ?_; clear hK K)
  refine (room05_any (((HRB.out.below HZ.out.1).below (Below.refl _ _).drew).below hb11) (by omega)).mono ?_
  rintro e w12 ⟨A_rb, c_rb, rfl, o_rb, hb12⟩
  refine ⟨_, rfl, (Grow.of_below hb12), ?_⟩
  (refine ord_norm (fun K hK => ?_); go_simp; refine hK _ ?_; clear hK K)
  (refine ord_call (by rfl) (fun K hK => ?_); go_simp; refine hK _ _ ?_; clear hK K)
  refine (room05_any ((((HRK.out.below HZ.out.1).below (Below.refl _ _).drew).below hb11).below hb12) (by omega)).mono ?_
  rintro e w13 ⟨A_rk, c_rk, rfl, o_rk, hb13⟩
  refine ⟨_, rfl, (Grow.of_below hb13), ?_⟩
  (refine ord_norm (fun K hK => ?_); go_simp; refine hK _ ?_; clear hK K)
  repeat (refine ord_pas (by rfl) (fun K hK => ?_); go_simp; refine hK _ _ (fun w' hw' => (by first | (go_simp; done) | (go_simp; intro hh; cases hh))) ?_; clear hK K)
  refine ord_nil ?_
  clear g_f0 e_f0 g_f1 e_f1 g_f2 e_f2
  obtain ⟨ga, rfl, hga1, hga2⟩ := o_ra.form (by omega)
  obtain ⟨gb, rfl, hgb1, hgb2⟩ := o_rb.form (by omega)
  obtain ⟨gk, rfl, hgk1, hgk2⟩ := o_rk.form (by omega)
  have x3 := (((((At.of (HZ.out.2 3 _ rfl)).below (Below.refl _ _).drew).below hb11).below hb12).below hb13).1
  go_wp2_with fail
  clear x3
  refine (rooms05_any ((((HSL.out.1.below (Below.refl _ _).drew).below hb11).below hb12).below hb13) ((((HSL.out.2.2.1.below (Below.refl _ _).drew).below hb11).below hb12).below hb13) HKL.out (by omega)).mono ?_
  rintro e w14 ⟨A_wl, c_wl, A_gl, c_gl, hsL, qL, rfl, row1, row2, els1, hlenL, hb14⟩
  have x4 := ((((((At.of (HZ.out.2 4 _ rfl)).below (Below.refl _ _).drew).below hb11).below hb12).below hb13).below hb14).1
  go_wp2_with fail
  clear x4
  refine (rooms05_any (((((HSM.out.1.below (Below.refl _ _).drew).below hb11).below hb12).below hb13).below hb14) (((((HSM.out.2.2.1.below (Below.refl _ _).drew).below hb11).below hb12).below hb13).below hb14) HKM.out (by omega)).mono ?_
  rintro e w15 ⟨A_wm, c_wm, A_gm, c_gm, hsM, qM, rfl, row3, row4, els2, hlenM, hb15⟩
  obtain ⟨gL, rfl, hgL1, hgL2⟩ := row2.form (by omega)
  obtain ⟨gM, rfl, hgM1, hgM2⟩ := row4.form (by omega)
  have HGE : Hid (wz.heap.size ≤ ga ∧ ga < gb ∧ ga < gk ∧ ga < gL ∧ ga < gM ∧ ga < w13.heap.size ∧ ga < w14.heap.size) := by
    have q1 := hb12.size
    have q2 := hb13.size
    have q3 := hb14.size
    simp only [World.drew] at hga1 hgb1
    refine ⟨by omega, by omega, by omega, by omega, by omega, by omega, by omega⟩
  have l1 : nA' + 2 ≤ c_ra := o_ra.cap.1
  have l2 : nB' + 2 ≤ c_rb := o_rb.cap.1
  have l3 : nK' + 2 ≤ c_rk := o_rk.cap.1
  have l4 : nL + 1 ≤ c_gl := row2.rd.1.2
  have l5 : nM + 1 ≤ c_gm := row4.rd.1.2
  have s1 : (nA' : Int) ≤ (c_ra : Int) := by omega
  have s2 : (nB' : Int) ≤ (c_rb : Int) := by omega
  have s3 : (nK' : Int) ≤ (c_rk : Int) := by omega
  have s4 : (nL : Int) ≤ (c_gl : Int) := by omega
  have s5 : (nM : Int) ≤ (c_gm : Int) := by omega
  go_wp2_with fail
  have e_f0 := (((((((At.of (HZ.out.2 0 _ rfl)).below (Below.refl _ _).drew).below hb11).below hb12).below hb13).below hb14).below hb15).1
  have g_f0 := At.grow (((((((At.of (HZ.out.2 0 _ rfl)).below (Below.refl _ _).drew).below hb11).below hb12).below hb13).below hb14).below hb15)
  have e_f1 := (((((((At.of (HZ.out.2 1 _ rfl)).below (Below.refl _ _).drew).below hb11).below hb12).below hb13).below hb14).below hb15).1
  have g_f1 := At.grow (((((((At.of (HZ.out.2 1 _ rfl)).below (Below.refl _ _).drew).below hb11).below hb12).below hb13).below hb14).below hb15)
  have e_f2 := (((((((At.of (HZ.out.2 2 _ rfl)).below (Below.refl _ _).drew).below hb11).below hb12).below hb13).below hb14).below hb15).1
  have g_f2 := At.grow (((((((At.of (HZ.out.2 2 _ rfl)).below (Below.refl _ _).drew).below hb11).below hb12).below hb13).below hb14).below hb15)
  have e_f3 := (((((((At.of (HZ.out.2 3 _ rfl)).below (Below.refl _ _).drew).below hb11).below hb12).below hb13).below hb14).below hb15).1
  have g_f3 := At.grow (((((((At.of (HZ.out.2 3 _ rfl)).below (Below.refl _ _).drew).below hb11).below hb12).below hb13).below hb14).below hb15)
  have e_f4 := (((((((At.of (HZ.out.2 4 _ rfl)).below (Below.refl _ _).drew).below hb11).below hb12).below hb13).below hb14).below hb15).1
  have g_f4 := At.grow (((((((At.of (HZ.out.2 4 _ rfl)).below (Below.refl _ _).drew).below hb11).below hb12).below hb13).below hb14).below hb15)
  refine wp_region_grow none [(true, 0), (true, 1), (true, 2), (true, 3), (true, 4), (true, 5), (true, 6), (true, 7), (true, 8), (true, 9), (true, 10), (true, 11), (true, 12), (true, 13), (true, 14), (true, 15), (true, 16), (true, 17), (true, 18), (true, 19), (true, 20), (true, 21), (true, 22), (true, 23), (true, 24), (true, 25), (true, 26), (true, 27), (true, 28), (true, 29)] (by kernel_rfl) (by kernel_rfl) ?_
  repeat (refine ord_pas (by rfl) (fun K hK => ?_); go_simp; refine hK _ _ (fun w' hw' => (by first | (go_simp; done) | (go_simp; intro hh; cases hh))) ?_; clear hK K)
  repeat (refine ord_pas (by rfl) (fun K hK => ?_); go_simp; refine hK _ _ (fun w' hw' => (by first | (go_simp; done) | (go_simp; intro hh; cases hh))) ?_; clear hK K)
  refine ord_nil ?_
  clear g_f0 e_f0 g_f1 e_f1 g_f2 e_f2 g_f3 e_f3 g_f4 e_f4
  obtain ⟨X1, ns1, T1, W1⟩ := both05 a b k xs ys nL nM kN (by omega) (by omega) HLM.out.1
  obtain ⟨X2, ns2, T2, W2⟩ := both05 b a k ys xs nM nL kN (by omega) (by omega) HLL.out.1
  have HT1 := Lib.hid T1
  have HW1 := Lib.hid W1
  have HT2 := Lib.hid T2
  have HW2 := Lib.hid W2
  clear T1 W1 T2 W2
  have f0z := ((((((((At.of (HZ.out.2 0 _ rfl)).below (Below.refl _ _).drew).below hb11).below hb12).below hb13).below hb14).below hb15).below (Below.refl _ _).drew).1
  have f1z := ((((((((At.of (HZ.out.2 1 _ rfl)).below (Below.refl _ _).drew).below hb11).below hb12).below hb13).below hb14).below hb15).below (Below.refl _ _).drew).1
  have f2z := ((((((((At.of (HZ.out.2 2 _ rfl)).below (Below.refl _ _).drew).below hb11).below hb12).below hb13).below hb14).below hb15).below (Below.refl _ _).drew).1
  have f3z := ((((((((At.of (HZ.out.2 3 _ rfl)).below (Below.refl _ _).drew).below hb11).below hb12).below hb13).below hb14).below hb15).below (Below.refl _ _).drew).1
  have f4z := ((((((((At.of (HZ.out.2 4 _ rfl)).below (Below.refl _ _).drew).below hb11).below hb12).below hb13).below hb14).below hb15).below (Below.refl _ _).drew).1
  go_wp2_with fail
  clear f0z f1z f2z f3z f4z
  refine (HW1.out ((((((((HNA.out.below HZ.out.1).below (Below.refl _ _).drew).below hb11).below hb12).below hb13).below hb14).below hb15).below (Below.refl _ _).drew) ((((((((HNB.out.below HZ.out.1).below (Below.refl _ _).drew).below hb11).below hb12).below hb13).below hb14).below hb15).below (Below.refl _ _).drew) ((((((((HNK.out.below HZ.out.1).below (Below.refl _ _).drew).below hb11).below hb12).below hb13).below hb14).below hb15).below (Below.refl _ _).drew) (((((((HNL.out.below (Below.refl _ _).drew).below hb11).below hb12).below hb13).below hb14).below hb15).below (Below.refl _ _).drew) (((((((HNM.out.below (Below.refl _ _).drew).below hb11).below hb12).below hb13).below hb14).below hb15).below (Below.refl _ _).drew)).mono ?_
  rintro e wv6 ⟨A6, q6, ss6, An6, qn6, rfl, ⟨hrow6, hel6⟩, hns6, hq6⟩
  have HBS : Hid (Below w.heap.size w (World.alloc wv6 (.cells #[.slice A6 14 q6, .slice An6 9 qn6] 35))) := (bt (bt (bt (bt (bt (bt (bt (bt (bt HZ.out.1 (Below.refl _ _).drew) hb11) hb12) hb13) hb14) hb15) (Below.refl _ _).drew) hq6) ((Below.refl _ _).alloc (Nat.le_refl _) (.cells #[.slice A6 14 q6, .slice An6 9 qn6] 35)))
  have HBSZ : Hid (Below wz.heap.size wz (World.alloc wv6 (.cells #[.slice A6 14 q6, .slice An6 9 qn6] 35))) := (bt (bt (bt (bt (bt (bt (bt (bt (Below.refl _ _).drew hb11) hb12) hb13) hb14) hb15) (Below.refl _ _).drew) hq6) ((Below.refl _ _).alloc (Nat.le_refl _) (.cells #[.slice A6 14 q6, .slice An6 9 qn6] 35)))
  have G0 := Lib.hid ((((((((((At.of (HZ.out.2 0 _ rfl)).below (Below.refl _ _).drew).below hb11).below hb12).below hb13).below hb14).below hb15).below (Below.refl _ _).drew).below hq6).below ((Below.refl _ _).alloc (Nat.le_refl _) (.cells #[.slice A6 14 q6, .slice An6 9 qn6] 35)))
  have G1 := Lib.hid ((((((((((At.of (HZ.out.2 1 _ rfl)).below (Below.refl _ _).drew).below hb11).below hb12).below hb13).below hb14).below hb15).below (Below.refl _ _).drew).below hq6).below ((Below.refl _ _).alloc (Nat.le_refl _) (.cells #[.slice A6 14 q6, .slice An6 9 qn6] 35)))
  have G2 := Lib.hid ((((((((((At.of (HZ.out.2 2 _ rfl)).below (Below.refl _ _).drew).below hb11).below hb12).below hb13).below hb14).below hb15).below (Below.refl _ _).drew).below hq6).below ((Below.refl _ _).alloc (Nat.le_refl _) (.cells #[.slice A6 14 q6, .slice An6 9 qn6] 35)))
  have G3 := Lib.hid ((((((((((At.of (HZ.out.2 3 _ rfl)).below (Below.refl _ _).drew).below hb11).below hb12).below hb13).below hb14).below hb15).below (Below.refl _ _).drew).below hq6).below ((Below.refl _ _).alloc (Nat.le_refl _) (.cells #[.slice A6 14 q6, .slice An6 9 qn6] 35)))
  have G4 := Lib.hid ((((((((((At.of (HZ.out.2 4 _ rfl)).below (Below.refl _ _).drew).below hb11).below hb12).below hb13).below hb14).below hb15).below (Below.refl _ _).drew).below hq6).below ((Below.refl _ _).alloc (Nat.le_refl _) (.cells #[.slice A6 14 q6, .slice An6 9 qn6] 35)))
  have G5 := Lib.hid ((((((((((At.of (HZ.out.2 5 _ rfl)).below (Below.refl _ _).drew).below hb11).below hb12).below hb13).below hb14).below hb15).below (Below.refl _ _).drew).below hq6).below ((Below.refl _ _).alloc (Nat.le_refl _) (.cells #[.slice A6 14 q6, .slice An6 9 qn6] 35)))
  have GRA := Lib.hid (((((((o_ra.below hb12).below hb13).below hb14).below hb15).below (Below.refl _ _).drew).below hq6).below ((Below.refl _ _).alloc (Nat.le_refl _) (.cells #[.slice A6 14 q6, .slice An6 9 qn6] 35)))
  have GRB := Lib.hid ((((((o_rb.below hb13).below hb14).below hb15).below (Below.refl _ _).drew).below hq6).below ((Below.refl _ _).alloc (Nat.le_refl _) (.cells #[.slice A6 14 q6, .slice An6 9 qn6] 35)))
  have GRK := Lib.hid (((((o_rk.below hb14).below hb15).below (Below.refl _ _).drew).below hq6).below ((Below.refl _ _).alloc (Nat.le_refl _) (.cells #[.slice A6 14 q6, .slice An6 9 qn6] 35)))
  have GWL := Lib.hid (And.intro ((((row1.below hb15).below (Below.refl _ _).drew).below hq6).below ((Below.refl _ _).alloc (Nat.le_refl _) (.cells #[.slice A6 14 q6, .slice An6 9 qn6] 35))) (And.intro ((((row2.below hb15).below (Below.refl _ _).drew).below hq6).below ((Below.refl _ _).alloc (Nat.le_refl _) (.cells #[.slice A6 14 q6, .slice An6 9 qn6] 35))) ((((els1.below hb15).below (Below.refl _ _).drew).below hq6).below ((Below.refl _ _).alloc (Nat.le_refl _) (.cells #[.slice A6 14 q6, .slice An6 9 qn6] 35)))))
  have GWM := Lib.hid (And.intro (((row3.below (Below.refl _ _).drew).below hq6).below ((Below.refl _ _).alloc (Nat.le_refl _) (.cells #[.slice A6 14 q6, .slice An6 9 qn6] 35))) (And.intro (((row4.below (Below.refl _ _).drew).below hq6).below ((Below.refl _ _).alloc (Nat.le_refl _) (.cells #[.slice A6 14 q6, .slice An6 9 qn6] 35))) (((els2.below (Below.refl _ _).drew).below hq6).below ((Below.refl _ _).alloc (Nat.le_refl _) (.cells #[.slice A6 14 q6, .slice An6 9 qn6] 35)))))
  have GLL := Lib.hid (And.intro (((((((((HNL.out.below (Below.refl _ _).drew).below hb11).below hb12).below hb13).below hb14).below hb15).below (Below.refl _ _).drew).below hq6).below ((Below.refl _ _).alloc (Nat.le_refl _) (.cells #[.slice A6 14 q6, .slice An6 9 qn6] 35))) (And.intro (((((((((HSL.out.1.below (Below.refl _ _).drew).below hb11).below hb12).below hb13).below hb14).below hb15).below (Below.refl _ _).drew).below hq6).below ((Below.refl _ _).alloc (Nat.le_refl _) (.cells #[.slice A6 14 q6, .slice An6 9 qn6] 35))) (((((((((HSL.out.2.2.1.below (Below.refl _ _).drew).below hb11).below hb12).below hb13).below hb14).below hb15).below (Below.refl _ _).drew).below hq6).below ((Below.refl _ _).alloc (Nat.le_refl _) (.cells #[.slice A6 14 q6, .slice An6 9 qn6] 35)))))
  have GMM := Lib.hid (And.intro (((((((((HNM.out.below (Below.refl _ _).drew).below hb11).below hb12).below hb13).below hb14).below hb15).below (Below.refl _ _).drew).below hq6).below ((Below.refl _ _).alloc (Nat.le_refl _) (.cells #[.slice A6 14 q6, .slice An6 9 qn6] 35))) (And.intro (((((((((HSM.out.1.below (Below.refl _ _).drew).below hb11).below hb12).below hb13).below hb14).below hb15).below (Below.refl _ _).drew).below hq6).below ((Below.refl _ _).alloc (Nat.le_refl _) (.cells #[.slice A6 14 q6, .slice An6 9 qn6] 35))) (((((((((HSM.out.2.2.1.below (Below.refl _ _).drew).below hb11).below hb12).below hb13).below hb14).below hb15).below (Below.refl _ _).drew).below hq6).below ((Below.refl _ _).alloc (Nat.le_refl _) (.cells #[.slice A6 14 q6, .slice An6 9 qn6] 35)))))
  have GNN := Lib.hid (And.intro ((((((((((HNA.out.below HZ.out.1).below (Below.refl _ _).drew).below hb11).below hb12).below hb13).below hb14).below hb15).below (Below.refl _ _).drew).below hq6).below ((Below.refl _ _).alloc (Nat.le_refl _) (.cells #[.slice A6 14 q6, .slice An6 9 qn6] 35))) (And.intro ((((((((((HNB.out.below HZ.out.1).below (Below.refl _ _).drew).below hb11).below hb12).below hb13).below hb14).below hb15).below (Below.refl _ _).drew).below hq6).below ((Below.refl _ _).alloc (Nat.le_refl _) (.cells #[.slice A6 14 q6, .slice An6 9 qn6] 35))) (And.intro ((((((((((HNK.out.below HZ.out.1).below (Below.refl _ _).drew).below hb11).below hb12).below hb13).below hb14).below hb15).below (Below.refl _ _).drew).below hq6).below ((Below.refl _ _).alloc (Nat.le_refl _) (.cells #[.slice A6 14 q6, .slice An6 9 qn6] 35))) (And.intro ((((((((((HRA.out.below HZ.out.1).below (Below.refl _ _).drew).below hb11).below hb12).below hb13).below hb14).below hb15).below (Below.refl _ _).drew).below hq6).below ((Below.refl _ _).alloc (Nat.le_refl _) (.cells #[.slice A6 14 q6, .slice An6 9 qn6] 35))) ((((((((((HRB.out.below HZ.out.1).below (Below.refl _ _).drew).below hb11).below hb12).below hb13).below hb14).below hb15).below (Below.refl _ _).drew).below hq6).below ((Below.refl _ _).alloc (Nat.le_refl _) (.cells #[.slice A6 14 q6, .slice An6 9 qn6] 35)))))))
  have RA := ((((((((o_ra.below hb12).below hb13).below hb14).below hb15).below (Below.refl _ _).drew).below hq6).below ((Below.refl _ _).alloc (Nat.le_refl _) (.cells #[.slice A6 14 q6, .slice An6 9 qn6] 35))).rd).upto (j := nA') (by omega)
  rw [List.take_left' HRA.out.len] at RA
  have RB := (((((((o_rb.below hb13).below hb14).below hb15).below (Below.refl _ _).drew).below hq6).below ((Below.refl _ _).alloc (Nat.le_refl _) (.cells #[.slice A6 14 q6, .slice An6 9 qn6] 35))).rd).upto (j := nB') (by omega)
  rw [List.take_left' HRB.out.len] at RB
  have RK := ((((((o_rk.below hb14).below hb15).below (Below.refl _ _).drew).below hq6).below ((Below.refl _ _).alloc (Nat.le_refl _) (.cells #[.slice A6 14 q6, .slice An6 9 qn6] 35))).rd).upto (j := nK') (by omega)
  rw [List.take_left' HRK.out.len] at RK
  have NA : Num (World.alloc wv6 (.cells #[.slice A6 14 q6, .slice An6 9 qn6] 35)) (.slice (some ⟨ga, 0, none⟩) nA' c_ra) a 30 := ⟨_, _, _, xa, rfl, RA, HVA.out.1, HVA.out.2, LA1⟩
  have NB : Num (World.alloc wv6 (.cells #[.slice A6 14 q6, .slice An6 9 qn6] 35)) (.slice (some ⟨gb, 0, none⟩) nB' c_rb) b 30 := ⟨_, _, _, xb, rfl, RB, HVB.out.1, HVB.out.2, LB1⟩
  have NK : Num (World.alloc wv6 (.cells #[.slice A6 14 q6, .slice An6 9 qn6] 35)) (.slice (some ⟨gk, 0, none⟩) nK' c_rk) k 30 := ⟨_, _, _, xk, rfl, RK, HVK.out.1, HVK.out.2, LK1⟩
  have NL := given_nums ((((row2.below hb15).below (Below.refl _ _).drew).below hq6).below ((Below.refl _ _).alloc (Nat.le_refl _) (.cells #[.slice A6 14 q6, .slice An6 9 qn6] 35))) ((((els1.below hb15).below (Below.refl _ _).drew).below hq6).below ((Below.refl _ _).alloc (Nat.le_refl _) (.cells #[.slice A6 14 q6, .slice An6 9 qn6] 35))) hlenL HSL.out.2.2.2 HLL.out.1
  have NM := given_nums (((row4.below (Below.refl _ _).drew).below hq6).below ((Below.refl _ _).alloc (Nat.le_refl _) (.cells #[.slice A6 14 q6, .slice An6 9 qn6] 35))) (((els2.below (Below.refl _ _).drew).below hq6).below ((Below.refl _ _).alloc (Nat.le_refl _) (.cells #[.slice A6 14 q6, .slice An6 9 qn6] 35))) hlenM HSM.out.2.2.2 HLM.out.1
  have HNA2 := Lib.hid NA
  have HNB2 := Lib.hid NB
  have HNK2 := Lib.hid NK
  have HNL2 := Lib.hid NL
  have HNM2 := Lib.hid NM
  have HRA2 := Lib.hid RA
  have HRB2 := Lib.hid RB
  have HRK2 := Lib.hid RK
  clear NA NB NK NL NM RA RB RK
  go_wp2_with fail
  refine (HT1.out HNA2.out HNB2.out HNK2.out HNL2.out HNM2.out).mono ?_
  rintro e wv7 ⟨A7, q7, ss7, An7, qn7, rfl, ⟨hrow7, hel7⟩, hns7, hq7, hap7, hln7, hle7⟩
  have B7 : Hid (∀ b, Blk ss7 b → wv6.heap.size + 1 ≤ b ∧ b < wv7.heap.size) := fun b hb => by have := hel7.base hb; simpa using this
  have Z7 : Hid (wv6.heap.size + 1 ≤ wv7.heap.size) := by show _ ≤ _; have := hq7.size; simpa using this
  go_wp2_with fail
  refine (HT2.out ((HNB2.out.below hq7).below ((Below.refl _ _).alloc (Nat.le_refl _) (.cells #[.slice A7 14 q7, .slice An7 9 qn7] 35))) ((HNA2.out.below hq7).below ((Below.refl _ _).alloc (Nat.le_refl _) (.cells #[.slice A7 14 q7, .slice An7 9 qn7] 35))) ((HNK2.out.below hq7).below ((Below.refl _ _).alloc (Nat.le_refl _) (.cells #[.slice A7 14 q7, .slice An7 9 qn7] 35))) ((HNM2.out.below hq7).below ((Below.refl _ _).alloc (Nat.le_refl _) (.cells #[.slice A7 14 q7, .slice An7 9 qn7] 35))) ((HNL2.out.below hq7).below ((Below.refl _ _).alloc (Nat.le_refl _) (.cells #[.slice A7 14 q7, .slice An7 9 qn7] 35)))).mono ?_
  rintro e wv8 ⟨A8, q8, ss8, An8, qn8, rfl, ⟨hrow8, hel8⟩, hns8, hq8, hap8, hln8, hle8⟩
  have B8 : Hid (∀ b, Blk ss8 b → wv7.heap.size + 1 ≤ b ∧ b < wv8.heap.size) := fun b hb => by have := hel8.base hb; simpa using this
  have Z8 : Hid (wv7.heap.size + 1 ≤ wv8.heap.size) := by show _ ≤ _; have := hq8.size; simpa using this
  go_wp2_with fail
  refine (HT1.out ((((HNA2.out.below hq7).below ((Below.refl _ _).alloc (Nat.le_refl _) (.cells #[.slice A7 14 q7, .slice An7 9 qn7] 35))).below hq8).below ((Below.refl _ _).alloc (Nat.le_refl _) (.cells #[.slice A8 14 q8, .slice An8 9 qn8] 35))) ((((HNB2.out.below hq7).below ((Below.refl _ _).alloc (Nat.le_refl _) (.cells #[.slice A7 14 q7, .slice An7 9 qn7] 35))).below hq8).below ((Below.refl _ _).alloc (Nat.le_refl _) (.cells #[.slice A8 14 q8, .slice An8 9 qn8] 35))) ((((HNK2.out.below hq7).below ((Below.refl _ _).alloc (Nat.le_refl _) (.cells #[.slice A7 14 q7, .slice An7 9 qn7] 35))).below hq8).below ((Below.refl _ _).alloc (Nat.le_refl _) (.cells #[.slice A8 14 q8, .slice An8 9 qn8] 35))) ((((HNL2.out.below hq7).below ((Below.refl _ _).alloc (Nat.le_refl _) (.cells #[.slice A7 14 q7, .slice An7 9 qn7] 35))).below hq8).below ((Below.refl _ _).alloc (Nat.le_refl _) (.cells #[.slice A8 14 q8, .slice An8 9 qn8] 35))) ((((HNM2.out.below hq7).below ((Below.refl _ _).alloc (Nat.le_refl _) (.cells #[.slice A7 14 q7, .slice An7 9 qn7] 35))).below hq8).below ((Below.refl _ _).alloc (Nat.le_refl _) (.cells #[.slice A8 14 q8, .slice An8 9 qn8] 35)))).mono ?_
  rintro e wv9 ⟨A9, q9, ss9, An9, qn9, rfl, ⟨hrow9, hel9⟩, hns9, hq9, hap9, hln9, hle9⟩
  have B9 : Hid (∀ b, Blk ss9 b → wv8.heap.size + 1 ≤ b ∧ b < wv9.heap.size) := fun b hb => by have := hel9.base hb; simpa using this
  have Z9 : Hid (wv8.heap.size + 1 ≤ wv9.heap.size) := by show _ ≤ _; have := hq9.size; simpa using this
  go_wp2_with fail
  have e_s60 := (((((((At.boxc (i := 0) (v := .slice A6 14 q6) (t := 35) (b := wv6.heap.size) wv6 #[.slice A6 14 q6, .slice An6 9 qn6] rfl (by simp)).below hq7).below ((Below.refl _ _).alloc (Nat.le_refl _) (.cells #[.slice A7 14 q7, .slice An7 9 qn7] 35))).below hq8).below ((Below.refl _ _).alloc (Nat.le_refl _) (.cells #[.slice A8 14 q8, .slice An8 9 qn8] 35))).below hq9).below ((Below.refl _ _).alloc (Nat.le_refl _) (.cells #[.slice A9 14 q9, .slice An9 9 qn9] 35))).1
  have g_s60 := At.grow (((((((At.boxc (i := 0) (v := .slice A6 14 q6) (t := 35) (b := wv6.heap.size) wv6 #[.slice A6 14 q6, .slice An6 9 qn6] rfl (by simp)).below hq7).below ((Below.refl _ _).alloc (Nat.le_refl _) (.cells #[.slice A7 14 q7, .slice An7 9 qn7] 35))).below hq8).below ((Below.refl _ _).alloc (Nat.le_refl _) (.cells #[.slice A8 14 q8, .slice An8 9 qn8] 35))).below hq9).below ((Below.refl _ _).alloc (Nat.le_refl _) (.cells #[.slice A9 14 q9, .slice An9 9 qn9] 35)))
  have e_s61 := (((((((At.boxc (i := 1) (v := .slice An6 9 qn6) (t := 35) (b := wv6.heap.size) wv6 #[.slice A6 14 q6, .slice An6 9 qn6] rfl (by simp)).below hq7).below ((Below.refl _ _).alloc (Nat.le_refl _) (.cells #[.slice A7 14 q7, .slice An7 9 qn7] 35))).below hq8).below ((Below.refl _ _).alloc (Nat.le_refl _) (.cells #[.slice A8 14 q8, .slice An8 9 qn8] 35))).below hq9).below ((Below.refl _ _).alloc (Nat.le_refl _) (.cells #[.slice A9 14 q9, .slice An9 9 qn9] 35))).1
  have g_s61 := At.grow (((((((At.boxc (i := 1) (v := .slice An6 9 qn6) (t := 35) (b := wv6.heap.size) wv6 #[.slice A6 14 q6, .slice An6 9 qn6] rfl (by simp)).below hq7).below ((Below.refl _ _).alloc (Nat.le_refl _) (.cells #[.slice A7 14 q7, .slice An7 9 qn7] 35))).below hq8).below ((Below.refl _ _).alloc (Nat.le_refl _) (.cells #[.slice A8 14 q8, .slice An8 9 qn8] 35))).below hq9).below ((Below.refl _ _).alloc (Nat.le_refl _) (.cells #[.slice A9 14 q9, .slice An9 9 qn9] 35)))
  have e_s70 := (((((At.boxc (i := 0) (v := .slice A7 14 q7) (t := 35) (b := wv7.heap.size) wv7 #[.slice A7 14 q7, .slice An7 9 qn7] rfl (by simp)).below hq8).below ((Below.refl _ _).alloc (Nat.le_refl _) (.cells #[.slice A8 14 q8, .slice An8 9 qn8] 35))).below hq9).below ((Below.refl _ _).alloc (Nat.le_refl _) (.cells #[.slice A9 14 q9, .slice An9 9 qn9] 35))).1
  have g_s70 := At.grow (((((At.boxc (i := 0) (v := .slice A7 14 q7) (t := 35) (b := wv7.heap.size) wv7 #[.slice A7 14 q7, .slice An7 9 qn7] rfl (by simp)).below hq8).below ((Below.refl _ _).alloc (Nat.le_refl _) (.cells #[.slice A8 14 q8, .slice An8 9 qn8] 35))).below hq9).below ((Below.refl _ _).alloc (Nat.le_refl _) (.cells #[.slice A9 14 q9, .slice An9 9 qn9] 35)))
  have e_s71 := (((((At.boxc (i := 1) (v := .slice An7 9 qn7) (t := 35) (b := wv7.heap.size) wv7 #[.slice A7 14 q7, .slice An7 9 qn7] rfl (by simp)).below hq8).below ((Below.refl _ _).alloc (Nat.le_refl _) (.cells #[.slice A8 14 q8, .slice An8 9 qn8] 35))).below hq9).below ((Below.refl _ _).alloc (Nat.le_refl _) (.cells #[.slice A9 14 q9, .slice An9 9 qn9] 35))).1
  have g_s71 := At.grow (((((At.boxc (i := 1) (v := .slice An7 9 qn7) (t := 35) (b := wv7.heap.size) wv7 #[.slice A7 14 q7, .slice An7 9 qn7] rfl (by simp)).below hq8).below ((Below.refl _ _).alloc (Nat.le_refl _) (.cells #[.slice A8 14 q8, .slice An8 9 qn8] 35))).below hq9).below ((Below.refl _ _).alloc (Nat.le_refl _) (.cells #[.slice A9 14 q9, .slice An9 9 qn9] 35)))
  refine wp_region_grow none [(true, 0), (true, 1), (false, 2), (true, 3), (true, 4), (true, 5), (true, 6), (false, 7), (true, 8), (true, 9), (true, 10), (true, 11), (true, 12), (true, 13), (true, 14), (true, 15), (true, 16), (true, 17), (true, 18), (true, 19), (true, 20), (true, 21), (true, 22), (false, 23), (false, 24), (true, 25), (true, 26), (true, 27), (true, 28), (true, 29), (true, 30), (false, 31), (true, 32), (true, 33), (true, 34), (true, 35), (true, 36), (true, 37), (false, 38), (true, 39), (true, 40), (true, 41), (true, 42), (true, 43), (true, 44), (false, 45), (true, 46), (true, 47)] (by kernel_rfl) (by kernel_rfl) ?_
  repeat (refine ord_pas (by rfl) (fun K hK => ?_); go_simp; refine hK _ _ (fun w' hw' => (by first | (go_simp; done) | (go_simp; intro hh; cases hh))) ?_; clear hK K)
  clear g_s60 g_s61 g_s70 g_s71 e_s60 e_s61 e_s70 e_s71
  (refine ord_call (by rfl) (fun K hK => ?_); go_simp; refine hK _ _ ?_; clear hK K)
  refine (said_yes ((((((hrow7.below ((Below.refl _ _).alloc (Nat.le_refl _) (.cells #[.slice A7 14 q7, .slice An7 9 qn7] 35))).below hq8).below ((Below.refl _ _).alloc (Nat.le_refl _) (.cells #[.slice A8 14 q8, .slice An8 9 qn8] 35))).below hq9).below ((Below.refl _ _).alloc (Nat.le_refl _) (.cells #[.slice A9 14 q9, .slice An9 9 qn9] 35))).below (Below.refl _ _).drew).rd ((((((((hrow6.below ((Below.refl _ _).alloc (Nat.le_refl _) (.cells #[.slice A6 14 q6, .slice An6 9 qn6] 35))).below hq7).below ((Below.refl _ _).alloc (Nat.le_refl _) (.cells #[.slice A7 14 q7, .slice An7 9 qn7] 35))).below hq8).below ((Below.refl _ _).alloc (Nat.le_refl _) (.cells #[.slice A8 14 q8, .slice An8 9 qn8] 35))).below hq9).below ((Below.refl _ _).alloc (Nat.le_refl _) (.cells #[.slice A9 14 q9, .slice An9 9 qn9] 35))).below (Below.refl _ _).drew).rd ((((((hel7.below ((Below.refl _ _).alloc (Nat.le_refl _) (.cells #[.slice A7 14 q7, .slice An7 9 qn7] 35))).below hq8).below ((Below.refl _ _).alloc (Nat.le_refl _) (.cells #[.slice A8 14 q8, .slice An8 9 qn8] 35))).below hq9).below ((Below.refl _ _).alloc (Nat.le_refl _) (.cells #[.slice A9 14 q9, .slice An9 9 qn9] 35))).below (Below.refl _ _).drew).hds (((((((((show Hds wv6 ss6 (fun i => X1.getD i []) from hel6).below ((Below.refl _ _).alloc (Nat.le_refl _) (.cells #[.slice A6 14 q6, .slice An6 9 qn6] 35))).below hq7).below ((Below.refl _ _).alloc (Nat.le_refl _) (.cells #[.slice A7 14 q7, .slice An7 9 qn7] 35))).below hq8).below ((Below.refl _ _).alloc (Nat.le_refl _) (.cells #[.slice A8 14 q8, .slice An8 9 qn8] 35))).below hq9).below ((Below.refl _ _).alloc (Nat.le_refl _) (.cells #[.slice A9 14 q9, .slice An9 9 qn9] 35))).below (Below.refl _ _).drew) hle7.get (by omega) ((((((hns7.below ((Below.refl _ _).alloc (Nat.le_refl _) (.cells #[.slice A7 14 q7, .slice An7 9 qn7] 35))).below hq8).below ((Below.refl _ _).alloc (Nat.le_refl _) (.cells #[.slice A8 14 q8, .slice An8 9 qn8] 35))).below hq9).below ((Below.refl _ _).alloc (Nat.le_refl _) (.cells #[.slice A9 14 q9, .slice An9 9 qn9] 35))).below (Below.refl _ _).drew).rd ((((((((hns6.below ((Below.refl _ _).alloc (Nat.le_refl _) (.cells #[.slice A6 14 q6, .slice An6 9 qn6] 35))).below hq7).below ((Below.refl _ _).alloc (Nat.le_refl _) (.cells #[.slice A7 14 q7, .slice An7 9 qn7] 35))).below hq8).below ((Below.refl _ _).alloc (Nat.le_refl _) (.cells #[.slice A8 14 q8, .slice An8 9 qn8] 35))).below hq9).below ((Below.refl _ _).alloc (Nat.le_refl _) (.cells #[.slice A9 14 q9, .slice An9 9 qn9] 35))).below (Below.refl _ _).drew).rd (by omega)).mono ?_
  rintro e w1 ⟨rfl, hb1⟩
  refine ⟨_, rfl, Grow.of_below hb1, ?_⟩
  (refine ord_norm (fun K hK => ?_); go_simp; refine hK _ ?_; clear hK K)
  have em_s60 := (((((((((At.boxc (i := 0) (v := .slice A6 14 q6) (t := 35) (b := wv6.heap.size) wv6 #[.slice A6 14 q6, .slice An6 9 qn6] rfl (by simp)).below hq7).below ((Below.refl _ _).alloc (Nat.le_refl _) (.cells #[.slice A7 14 q7, .slice An7 9 qn7] 35))).below hq8).below ((Below.refl _ _).alloc (Nat.le_refl _) (.cells #[.slice A8 14 q8, .slice An8 9 qn8] 35))).below hq9).below ((Below.refl _ _).alloc (Nat.le_refl _) (.cells #[.slice A9 14 q9, .slice An9 9 qn9] 35))).below (Below.refl _ _).drew).below hb1).1
  have gm_s60 := At.grow0 (((((((((At.boxc (i := 0) (v := .slice A6 14 q6) (t := 35) (b := wv6.heap.size) wv6 #[.slice A6 14 q6, .slice An6 9 qn6] rfl (by simp)).below hq7).below ((Below.refl _ _).alloc (Nat.le_refl _) (.cells #[.slice A7 14 q7, .slice An7 9 qn7] 35))).below hq8).below ((Below.refl _ _).alloc (Nat.le_refl _) (.cells #[.slice A8 14 q8, .slice An8 9 qn8] 35))).below hq9).below ((Below.refl _ _).alloc (Nat.le_refl _) (.cells #[.slice A9 14 q9, .slice An9 9 qn9] 35))).below (Below.refl _ _).drew).below hb1)
  have em_s61 := (((((((((At.boxc (i := 1) (v := .slice An6 9 qn6) (t := 35) (b := wv6.heap.size) wv6 #[.slice A6 14 q6, .slice An6 9 qn6] rfl (by simp)).below hq7).below ((Below.refl _ _).alloc (Nat.le_refl _) (.cells #[.slice A7 14 q7, .slice An7 9 qn7] 35))).below hq8).below ((Below.refl _ _).alloc (Nat.le_refl _) (.cells #[.slice A8 14 q8, .slice An8 9 qn8] 35))).below hq9).below ((Below.refl _ _).alloc (Nat.le_refl _) (.cells #[.slice A9 14 q9, .slice An9 9 qn9] 35))).below (Below.refl _ _).drew).below hb1).1
  have gm_s61 := At.grow0 (((((((((At.boxc (i := 1) (v := .slice An6 9 qn6) (t := 35) (b := wv6.heap.size) wv6 #[.slice A6 14 q6, .slice An6 9 qn6] rfl (by simp)).below hq7).below ((Below.refl _ _).alloc (Nat.le_refl _) (.cells #[.slice A7 14 q7, .slice An7 9 qn7] 35))).below hq8).below ((Below.refl _ _).alloc (Nat.le_refl _) (.cells #[.slice A8 14 q8, .slice An8 9 qn8] 35))).below hq9).below ((Below.refl _ _).alloc (Nat.le_refl _) (.cells #[.slice A9 14 q9, .slice An9 9 qn9] 35))).below (Below.refl _ _).drew).below hb1)
  have em_s90 := (((At.boxc (i := 0) (v := .slice A9 14 q9) (t := 35) (b := wv9.heap.size) wv9 #[.slice A9 14 q9, .slice An9 9 qn9] rfl (by simp)).below (Below.refl _ _).drew).below hb1).1
  have gm_s90 := At.grow0 (((At.boxc (i := 0) (v := .slice A9 14 q9) (t := 35) (b := wv9.heap.size) wv9 #[.slice A9 14 q9, .slice An9 9 qn9] rfl (by simp)).below (Below.refl _ _).drew).below hb1)
  have em_s91 := (((At.boxc (i := 1) (v := .slice An9 9 qn9) (t := 35) (b := wv9.heap.size) wv9 #[.slice A9 14 q9, .slice An9 9 qn9] rfl (by simp)).below (Below.refl _ _).drew).below hb1).1
  have gm_s91 := At.grow0 (((At.boxc (i := 1) (v := .slice An9 9 qn9) (t := 35) (b := wv9.heap.size) wv9 #[.slice A9 14 q9, .slice An9 9 qn9] rfl (by simp)).below (Below.refl _ _).drew).below hb1)
  repeat (refine ord_pas (by rfl) (fun K hK => ?_); go_simp; refine hK _ _ (fun w' hw' => (by first | (go_simp; done) | (go_simp; intro hh; cases hh))) ?_; clear hK K)
  clear gm_s60 em_s60 gm_s61 em_s61 gm_s90 em_s90 gm_s91 em_s91
  (refine ord_call (by rfl) (fun K hK => ?_); go_simp; refine hK _ _ ?_; clear hK K)
  refine (said_yes (((hrow9.below ((Below.refl _ _).alloc (Nat.le_refl _) (.cells #[.slice A9 14 q9, .slice An9 9 qn9] 35))).below (Below.refl _ _).drew).below hb1).rd (((((((((hrow6.below ((Below.refl _ _).alloc (Nat.le_refl _) (.cells #[.slice A6 14 q6, .slice An6 9 qn6] 35))).below hq7).below ((Below.refl _ _).alloc (Nat.le_refl _) (.cells #[.slice A7 14 q7, .slice An7 9 qn7] 35))).below hq8).below ((Below.refl _ _).alloc (Nat.le_refl _) (.cells #[.slice A8 14 q8, .slice An8 9 qn8] 35))).below hq9).below ((Below.refl _ _).alloc (Nat.le_refl _) (.cells #[.slice A9 14 q9, .slice An9 9 qn9] 35))).below (Below.refl _ _).drew).below hb1).rd (((hel9.below ((Below.refl _ _).alloc (Nat.le_refl _) (.cells #[.slice A9 14 q9, .slice An9 9 qn9] 35))).below (Below.refl _ _).drew).below hb1).hds ((((((((((show Hds wv6 ss6 (fun i => X1.getD i []) from hel6).below ((Below.refl _ _).alloc (Nat.le_refl _) (.cells #[.slice A6 14 q6, .slice An6 9 qn6] 35))).below hq7).below ((Below.refl _ _).alloc (Nat.le_refl _) (.cells #[.slice A7 14 q7, .slice An7 9 qn7] 35))).below hq8).below ((Below.refl _ _).alloc (Nat.le_refl _) (.cells #[.slice A8 14 q8, .slice An8 9 qn8] 35))).below hq9).below ((Below.refl _ _).alloc (Nat.le_refl _) (.cells #[.slice A9 14 q9, .slice An9 9 qn9] 35))).below (Below.refl _ _).drew).below hb1) hle9.get (by omega) (((hns9.below ((Below.refl _ _).alloc (Nat.le_refl _) (.cells #[.slice A9 14 q9, .slice An9 9 qn9] 35))).below (Below.refl _ _).drew).below hb1).rd (((((((((hns6.below ((Below.refl _ _).alloc (Nat.le_refl _) (.cells #[.slice A6 14 q6, .slice An6 9 qn6] 35))).below hq7).below ((Below.refl _ _).alloc (Nat.le_refl _) (.cells #[.slice A7 14 q7, .slice An7 9 qn7] 35))).below hq8).below ((Below.refl _ _).alloc (Nat.le_refl _) (.cells #[.slice A8 14 q8, .slice An8 9 qn8] 35))).below hq9).below ((Below.refl _ _).alloc (Nat.le_refl _) (.cells #[.slice A9 14 q9, .slice An9 9 qn9] 35))).below (Below.refl _ _).drew).below hb1).rd (by omega)).mono ?_
  rintro e w2 ⟨rfl, hb2⟩
  refine ⟨_, rfl, Grow.of_below hb2, ?_⟩
  (refine ord_norm (fun K hK => ?_); go_simp; refine hK _ ?_; clear hK K)
  have em_s80 := ((((((At.boxc (i := 0) (v := .slice A8 14 q8) (t := 35) (b := wv8.heap.size) wv8 #[.slice A8 14 q8, .slice An8 9 qn8] rfl (by simp)).below hq9).below ((Below.refl _ _).alloc (Nat.le_refl _) (.cells #[.slice A9 14 q9, .slice An9 9 qn9] 35))).below (Below.refl _ _).drew).below hb1).below hb2).1
  have gm_s80 := At.grow0 ((((((At.boxc (i := 0) (v := .slice A8 14 q8) (t := 35) (b := wv8.heap.size) wv8 #[.slice A8 14 q8, .slice An8 9 qn8] rfl (by simp)).below hq9).below ((Below.refl _ _).alloc (Nat.le_refl _) (.cells #[.slice A9 14 q9, .slice An9 9 qn9] 35))).below (Below.refl _ _).drew).below hb1).below hb2)
  have em_s81 := ((((((At.boxc (i := 1) (v := .slice An8 9 qn8) (t := 35) (b := wv8.heap.size) wv8 #[.slice A8 14 q8, .slice An8 9 qn8] rfl (by simp)).below hq9).below ((Below.refl _ _).alloc (Nat.le_refl _) (.cells #[.slice A9 14 q9, .slice An9 9 qn9] 35))).below (Below.refl _ _).drew).below hb1).below hb2).1
  have gm_s81 := At.grow0 ((((((At.boxc (i := 1) (v := .slice An8 9 qn8) (t := 35) (b := wv8.heap.size) wv8 #[.slice A8 14 q8, .slice An8 9 qn8] rfl (by simp)).below hq9).below ((Below.refl _ _).alloc (Nat.le_refl _) (.cells #[.slice A9 14 q9, .slice An9 9 qn9] 35))).below (Below.refl _ _).drew).below hb1).below hb2)
  have em_f0 := (((((((((((((((((((At.of (HZ.out.2 0 _ rfl)).below (Below.refl _ _).drew).below hb11).below hb12).below hb13).below hb14).below hb15).below (Below.refl _ _).drew).below hq6).below ((Below.refl _ _).alloc (Nat.le_refl _) (.cells #[.slice A6 14 q6, .slice An6 9 qn6] 35))).below hq7).below ((Below.refl _ _).alloc (Nat.le_refl _) (.cells #[.slice A7 14 q7, .slice An7 9 qn7] 35))).below hq8).below ((Below.refl _ _).alloc (Nat.le_refl _) (.cells #[.slice A8 14 q8, .slice An8 9 qn8] 35))).below hq9).below ((Below.refl _ _).alloc (Nat.le_refl _) (.cells #[.slice A9 14 q9, .slice An9 9 qn9] 35))).below (Below.refl _ _).drew).below hb1).below hb2).1
  have gm_f0 := At.grow0 (((((((((((((((((((At.of (HZ.out.2 0 _ rfl)).below (Below.refl _ _).drew).below hb11).below hb12).below hb13).below hb14).below hb15).below (Below.refl _ _).drew).below hq6).below ((Below.refl _ _).alloc (Nat.le_refl _) (.cells #[.slice A6 14 q6, .slice An6 9 qn6] 35))).below hq7).below ((Below.refl _ _).alloc (Nat.le_refl _) (.cells #[.slice A7 14 q7, .slice An7 9 qn7] 35))).below hq8).below ((Below.refl _ _).alloc (Nat.le_refl _) (.cells #[.slice A8 14 q8, .slice An8 9 qn8] 35))).below hq9).below ((Below.refl _ _).alloc (Nat.le_refl _) (.cells #[.slice A9 14 q9, .slice An9 9 qn9] 35))).below (Below.refl _ _).drew).below hb1).below hb2)
  have em_f1 := (((((((((((((((((((At.of (HZ.out.2 1 _ rfl)).below (Below.refl _ _).drew).below hb11).below hb12).below hb13).below hb14).below hb15).below (Below.refl _ _).drew).below hq6).below ((Below.refl _ _).alloc (Nat.le_refl _) (.cells #[.slice A6 14 q6, .slice An6 9 qn6] 35))).below hq7).below ((Below.refl _ _).alloc (Nat.le_refl _) (.cells #[.slice A7 14 q7, .slice An7 9 qn7] 35))).below hq8).below ((Below.refl _ _).alloc (Nat.le_refl _) (.cells #[.slice A8 14 q8, .slice An8 9 qn8] 35))).below hq9).below ((Below.refl _ _).alloc (Nat.le_refl _) (.cells #[.slice A9 14 q9, .slice An9 9 qn9] 35))).below (Below.refl _ _).drew).below hb1).below hb2).1
  have gm_f1 := At.grow0 (((((((((((((((((((At.of (HZ.out.2 1 _ rfl)).below (Below.refl _ _).drew).below hb11).below hb12).below hb13).below hb14).below hb15).below (Below.refl _ _).drew).below hq6).below ((Below.refl _ _).alloc (Nat.le_refl _) (.cells #[.slice A6 14 q6, .slice An6 9 qn6] 35))).below hq7).below ((Below.refl _ _).alloc (Nat.le_refl _) (.cells #[.slice A7 14 q7, .slice An7 9 qn7] 35))).below hq8).below ((Below.refl _ _).alloc (Nat.le_refl _) (.cells #[.slice A8 14 q8, .slice An8 9 qn8] 35))).below hq9).below ((Below.refl _ _).alloc (Nat.le_refl _) (.cells #[.slice A9 14 q9, .slice An9 9 qn9] 35))).below (Below.refl _ _).drew).below hb1).below hb2)
  have em_f2 := (((((((((((((((((((At.of (HZ.out.2 2 _ rfl)).below (Below.refl _ _).drew).below hb11).below hb12).below hb13).below hb14).below hb15).below (Below.refl _ _).drew).below hq6).below ((Below.refl _ _).alloc (Nat.le_refl _) (.cells #[.slice A6 14 q6, .slice An6 9 qn6] 35))).below hq7).below ((Below.refl _ _).alloc (Nat.le_refl _) (.cells #[.slice A7 14 q7, .slice An7 9 qn7] 35))).below hq8).below ((Below.refl _ _).alloc (Nat.le_refl _) (.cells #[.slice A8 14 q8, .slice An8 9 qn8] 35))).below hq9).below ((Below.refl _ _).alloc (Nat.le_refl _) (.cells #[.slice A9 14 q9, .slice An9 9 qn9] 35))).below (Below.refl _ _).drew).below hb1).below hb2).1
  have gm_f2 := At.grow0 (((((((((((((((((((At.of (HZ.out.2 2 _ rfl)).below (Below.refl _ _).drew).below hb11).below hb12).below hb13).below hb14).below hb15).below (Below.refl _ _).drew).below hq6).below ((Below.refl _ _).alloc (Nat.le_refl _) (.cells #[.slice A6 14 q6, .slice An6 9 qn6] 35))).below hq7).below ((Below.refl _ _).alloc (Nat.le_refl _) (.cells #[.slice A7 14 q7, .slice An7 9 qn7] 35))).below hq8).below ((Below.refl _ _).alloc (Nat.le_refl _) (.cells #[.slice A8 14 q8, .slice An8 9 qn8] 35))).below hq9).below ((Below.refl _ _).alloc (Nat.le_refl _) (.cells #[.slice A9 14 q9, .slice An9 9 qn9] 35))).below (Below.refl _ _).drew).below hb1).below hb2)
  have em_f3 := (((((((((((((((((((At.of (HZ.out.2 3 _ rfl)).below (Below.refl _ _).drew).below hb11).below hb12).below hb13).below hb14).below hb15).below (Below.refl _ _).drew).below hq6).below ((Below.refl _ _).alloc (Nat.le_refl _) (.cells #[.slice A6 14 q6, .slice An6 9 qn6] 35))).below hq7).below ((Below.refl _ _).alloc (Nat.le_refl _) (.cells #[.slice A7 14 q7, .slice An7 9 qn7] 35))).below hq8).below ((Below.refl _ _).alloc (Nat.le_refl _) (.cells #[.slice A8 14 q8, .slice An8 9 qn8] 35))).below hq9).below ((Below.refl _ _).alloc (Nat.le_refl _) (.cells #[.slice A9 14 q9, .slice An9 9 qn9] 35))).below (Below.refl _ _).drew).below hb1).below hb2).1
  have gm_f3 := At.grow0 (((((((((((((((((((At.of (HZ.out.2 3 _ rfl)).below (Below.refl _ _).drew).below hb11).below hb12).below hb13).below hb14).below hb15).below (Below.refl _ _).drew).below hq6).below ((Below.refl _ _).alloc (Nat.le_refl _) (.cells #[.slice A6 14 q6, .slice An6 9 qn6] 35))).below hq7).below ((Below.refl _ _).alloc (Nat.le_refl _) (.cells #[.slice A7 14 q7, .slice An7 9 qn7] 35))).below hq8).below ((Below.refl _ _).alloc (Nat.le_refl _) (.cells #[.slice A8 14 q8, .slice An8 9 qn8] 35))).below hq9).below ((Below.refl _ _).alloc (Nat.le_refl _) (.cells #[.slice A9 14 q9, .slice An9 9 qn9] 35))).below (Below.refl _ _).drew).below hb1).below hb2)
  have em_f4 := (((((((((((((((((((At.of (HZ.out.2 4 _ rfl)).below (Below.refl _ _).drew).below hb11).below hb12).below hb13).below hb14).below hb15).below (Below.refl _ _).drew).below hq6).below ((Below.refl _ _).alloc (Nat.le_refl _) (.cells #[.slice A6 14 q6, .slice An6 9 qn6] 35))).below hq7).below ((Below.refl _ _).alloc (Nat.le_refl _) (.cells #[.slice A7 14 q7, .slice An7 9 qn7] 35))).below hq8).below ((Below.refl _ _).alloc (Nat.le_refl _) (.cells #[.slice A8 14 q8, .slice An8 9 qn8] 35))).below hq9).below ((Below.refl _ _).alloc (Nat.le_refl _) (.cells #[.slice A9 14 q9, .slice An9 9 qn9] 35))).below (Below.refl _ _).drew).below hb1).below hb2).1
  have gm_f4 := At.grow0 (((((((((((((((((((At.of (HZ.out.2 4 _ rfl)).below (Below.refl _ _).drew).below hb11).below hb12).below hb13).below hb14).below hb15).below (Below.refl _ _).drew).below hq6).below ((Below.refl _ _).alloc (Nat.le_refl _) (.cells #[.slice A6 14 q6, .slice An6 9 qn6] 35))).below hq7).below ((Below.refl _ _).alloc (Nat.le_refl _) (.cells #[.slice A7 14 q7, .slice An7 9 qn7] 35))).below hq8).below ((Below.refl _ _).alloc (Nat.le_refl _) (.cells #[.slice A8 14 q8, .slice An8 9 qn8] 35))).below hq9).below ((Below.refl _ _).alloc (Nat.le_refl _) (.cells #[.slice A9 14 q9, .slice An9 9 qn9] 35))).below (Below.refl _ _).drew).below hb1).below hb2)
  repeat (refine ord_pas (by rfl) (fun K hK => ?_); go_simp; refine hK _ _ (fun w' hw' => (by first | (go_simp; done) | (go_simp; intro hh; cases hh))) ?_; clear hK K)
  clear gm_s80 em_s80 gm_s81 em_s81 gm_f0 em_f0 gm_f1 em_f1 gm_f2 em_f2 gm_f3 em_f3 gm_f4 em_f4
  (refine ord_call (by rfl) (fun K hK => ?_); go_simp; refine hK _ _ ?_; clear hK K)
  refine (HW2.out (((((((((((((((((((HNB.out.below HZ.out.1).below (Below.refl _ _).drew).below hb11).below hb12).below hb13).below hb14).below hb15).below (Below.refl _ _).drew).below hq6).below ((Below.refl _ _).alloc (Nat.le_refl _) (.cells #[.slice A6 14 q6, .slice An6 9 qn6] 35))).below hq7).below ((Below.refl _ _).alloc (Nat.le_refl _) (.cells #[.slice A7 14 q7, .slice An7 9 qn7] 35))).below hq8).below ((Below.refl _ _).alloc (Nat.le_refl _) (.cells #[.slice A8 14 q8, .slice An8 9 qn8] 35))).below hq9).below ((Below.refl _ _).alloc (Nat.le_refl _) (.cells #[.slice A9 14 q9, .slice An9 9 qn9] 35))).below (Below.refl _ _).drew).below hb1).below hb2) (((((((((((((((((((HNA.out.below HZ.out.1).below (Below.refl _ _).drew).below hb11).below hb12).below hb13).below hb14).below hb15).below (Below.refl _ _).drew).below hq6).below ((Below.refl _ _).alloc (Nat.le_refl _) (.cells #[.slice A6 14 q6, .slice An6 9 qn6] 35))).below hq7).below ((Below.refl _ _).alloc (Nat.le_refl _) (.cells #[.slice A7 14 q7, .slice An7 9 qn7] 35))).below hq8).below ((Below.refl _ _).alloc (Nat.le_refl _) (.cells #[.slice A8 14 q8, .slice An8 9 qn8] 35))).below hq9).below ((Below.refl _ _).alloc (Nat.le_refl _) (.cells #[.slice A9 14 q9, .slice An9 9 qn9] 35))).below (Below.refl _ _).drew).below hb1).below hb2) (((((((((((((((((((HNK.out.below HZ.out.1).below (Below.refl _ _).drew).below hb11).below hb12).below hb13).below hb14).below hb15).below (Below.refl _ _).drew).below hq6).below ((Below.refl _ _).alloc (Nat.le_refl _) (.cells #[.slice A6 14 q6, .slice An6 9 qn6] 35))).below hq7).below ((Below.refl _ _).alloc (Nat.le_refl _) (.cells #[.slice A7 14 q7, .slice An7 9 qn7] 35))).below hq8).below ((Below.refl _ _).alloc (Nat.le_refl _) (.cells #[.slice A8 14 q8, .slice An8 9 qn8] 35))).below hq9).below ((Below.refl _ _).alloc (Nat.le_refl _) (.cells #[.slice A9 14 q9, .slice An9 9 qn9] 35))).below (Below.refl _ _).drew).below hb1).below hb2) ((((((((((((((((((HNM.out.below (Below.refl _ _).drew).below hb11).below hb12).below hb13).below hb14).below hb15).below (Below.refl _ _).drew).below hq6).below ((Below.refl _ _).alloc (Nat.le_refl _) (.cells #[.slice A6 14 q6, .slice An6 9 qn6] 35))).below hq7).below ((Below.refl _ _).alloc (Nat.le_refl _) (.cells #[.slice A7 14 q7, .slice An7 9 qn7] 35))).below hq8).below ((Below.refl _ _).alloc (Nat.le_refl _) (.cells #[.slice A8 14 q8, .slice An8 9 qn8] 35))).below hq9).below ((Below.refl _ _).alloc (Nat.le_refl _) (.cells #[.slice A9 14 q9, .slice An9 9 qn9] 35))).below (Below.refl _ _).drew).below hb1).below hb2) ((((((((((((((((((HNL.out.below (Below.refl _ _).drew).below hb11).below hb12).below hb13).below hb14).below hb15).below (Below.refl _ _).drew).below hq6).below ((Below.refl _ _).alloc (Nat.le_refl _) (.cells #[.slice A6 14 q6, .slice An6 9 qn6] 35))).below hq7).below ((Below.refl _ _).alloc (Nat.le_refl _) (.cells #[.slice A7 14 q7, .slice An7 9 qn7] 35))).below hq8).below ((Below.refl _ _).alloc (Nat.le_refl _) (.cells #[.slice A8 14 q8, .slice An8 9 qn8] 35))).below hq9).below ((Below.refl _ _).alloc (Nat.le_refl _) (.cells #[.slice A9 14 q9, .slice An9 9 qn9] 35))).below (Below.refl _ _).drew).below hb1).below hb2)).mono ?_
  rintro e wv10 ⟨A10, q10, ss10, An10, qn10, rfl, ⟨hrow10, hel10⟩, hns10, hq10⟩
  refine ⟨_, rfl, (Grow.of_below hq10), ?_⟩
  (refine ord_norm (fun K hK => ?_); go_simp; refine hK _ ?_; clear hK K)
  (refine ord_call (by rfl) (fun K hK => ?_); go_simp; refine hK _ _ ?_; clear hK K)
  refine (said_yes (((((((hrow8.below ((Below.refl _ _).alloc (Nat.le_refl _) (.cells #[.slice A8 14 q8, .slice An8 9 qn8] 35))).below hq9).below ((Below.refl _ _).alloc (Nat.le_refl _) (.cells #[.slice A9 14 q9, .slice An9 9 qn9] 35))).below (Below.refl _ _).drew).below hb1).below hb2).below hq10).rd hrow10.rd (((((((hel8.below ((Below.refl _ _).alloc (Nat.le_refl _) (.cells #[.slice A8 14 q8, .slice An8 9 qn8] 35))).below hq9).below ((Below.refl _ _).alloc (Nat.le_refl _) (.cells #[.slice A9 14 q9, .slice An9 9 qn9] 35))).below (Below.refl _ _).drew).below hb1).below hb2).below hq10).hds (show Hds wv10 ss10 (fun i => X2.getD i []) from hel10) hle8.get (by omega) (((((((hns8.below ((Below.refl _ _).alloc (Nat.le_refl _) (.cells #[.slice A8 14 q8, .slice An8 9 qn8] 35))).below hq9).below ((Below.refl _ _).alloc (Nat.le_refl _) (.cells #[.slice A9 14 q9, .slice An9 9 qn9] 35))).below (Below.refl _ _).drew).below hb1).below hb2).below hq10).rd hns10.rd (by omega)).mono ?_
  rintro e w3 ⟨rfl, hb3⟩
  refine ⟨_, rfl, Grow.of_below hb3, ?_⟩
  (refine ord_norm (fun K hK => ?_); go_simp; refine hK _ ?_; clear hK K)
  have em_f0 := (((((((((((((((((((((At.of (HZ.out.2 0 _ rfl)).below (Below.refl _ _).drew).below hb11).below hb12).below hb13).below hb14).below hb15).below (Below.refl _ _).drew).below hq6).below ((Below.refl _ _).alloc (Nat.le_refl _) (.cells #[.slice A6 14 q6, .slice An6 9 qn6] 35))).below hq7).below ((Below.refl _ _).alloc (Nat.le_refl _) (.cells #[.slice A7 14 q7, .slice An7 9 qn7] 35))).below hq8).below ((Below.refl _ _).alloc (Nat.le_refl _) (.cells #[.slice A8 14 q8, .slice An8 9 qn8] 35))).below hq9).below ((Below.refl _ _).alloc (Nat.le_refl _) (.cells #[.slice A9 14 q9, .slice An9 9 qn9] 35))).below (Below.refl _ _).drew).below hb1).below hb2).below hq10).below hb3).1
  have gm_f0 := At.grow0 (((((((((((((((((((((At.of (HZ.out.2 0 _ rfl)).below (Below.refl _ _).drew).below hb11).below hb12).below hb13).below hb14).below hb15).below (Below.refl _ _).drew).below hq6).below ((Below.refl _ _).alloc (Nat.le_refl _) (.cells #[.slice A6 14 q6, .slice An6 9 qn6] 35))).below hq7).below ((Below.refl _ _).alloc (Nat.le_refl _) (.cells #[.slice A7 14 q7, .slice An7 9 qn7] 35))).below hq8).below ((Below.refl _ _).alloc (Nat.le_refl _) (.cells #[.slice A8 14 q8, .slice An8 9 qn8] 35))).below hq9).below ((Below.refl _ _).alloc (Nat.le_refl _) (.cells #[.slice A9 14 q9, .slice An9 9 qn9] 35))).below (Below.refl _ _).drew).below hb1).below hb2).below hq10).below hb3)
  repeat (refine ord_pas (by rfl) (fun K hK => ?_); go_simp; refine hK _ _ (fun w' hw' => (by first | (go_simp; done) | (go_simp; intro hh; cases hh))) ?_; clear hK K)
  clear gm_f0 em_f0
  have KA := kept_yes ((((((((((((((((((o_ra.below hb12).below hb13).below hb14).below hb15).below (Below.refl _ _).drew).below hq6).below ((Below.refl _ _).alloc (Nat.le_refl _) (.cells #[.slice A6 14 q6, .slice An6 9 qn6] 35))).below hq7).below ((Below.refl _ _).alloc (Nat.le_refl _) (.cells #[.slice A7 14 q7, .slice An7 9 qn7] 35))).below hq8).below ((Below.refl _ _).alloc (Nat.le_refl _) (.cells #[.slice A8 14 q8, .slice An8 9 qn8] 35))).below hq9).below ((Below.refl _ _).alloc (Nat.le_refl _) (.cells #[.slice A9 14 q9, .slice An9 9 qn9] 35))).below (Below.refl _ _).drew).below hb1).below hb2).below hq10).below hb3).rd (((((((((((((((((((((HRA.out.below HZ.out.1).below (Below.refl _ _).drew).below hb11).below hb12).below hb13).below hb14).below hb15).below (Below.refl _ _).drew).below hq6).below ((Below.refl _ _).alloc (Nat.le_refl _) (.cells #[.slice A6 14 q6, .slice An6 9 qn6] 35))).below hq7).below ((Below.refl _ _).alloc (Nat.le_refl _) (.cells #[.slice A7 14 q7, .slice An7 9 qn7] 35))).below hq8).below ((Below.refl _ _).alloc (Nat.le_refl _) (.cells #[.slice A8 14 q8, .slice An8 9 qn8] 35))).below hq9).below ((Below.refl _ _).alloc (Nat.le_refl _) (.cells #[.slice A9 14 q9, .slice An9 9 qn9] 35))).below (Below.refl _ _).drew).below hb1).below hb2).below hq10).below hb3) (by omega)
  (refine ord_call (by rfl) (fun K hK => ?_); go_simp; refine hK _ _ ?_; clear hK K)
  refine (KA).mono ?_
  rintro e w4 ⟨rfl, hb4⟩
  refine ⟨_, rfl, Grow.of_below hb4, ?_⟩
  (refine ord_norm (fun K hK => ?_); go_simp; refine hK _ ?_; clear hK K)
  have em_f1 := ((((((((((((((((((((((At.of (HZ.out.2 1 _ rfl)).below (Below.refl _ _).drew).below hb11).below hb12).below hb13).below hb14).below hb15).below (Below.refl _ _).drew).below hq6).below ((Below.refl _ _).alloc (Nat.le_refl _) (.cells #[.slice A6 14 q6, .slice An6 9 qn6] 35))).below hq7).below ((Below.refl _ _).alloc (Nat.le_refl _) (.cells #[.slice A7 14 q7, .slice An7 9 qn7] 35))).below hq8).below ((Below.refl _ _).alloc (Nat.le_refl _) (.cells #[.slice A8 14 q8, .slice An8 9 qn8] 35))).below hq9).below ((Below.refl _ _).alloc (Nat.le_refl _) (.cells #[.slice A9 14 q9, .slice An9 9 qn9] 35))).below (Below.refl _ _).drew).below hb1).below hb2).below hq10).below hb3).below hb4).1
  have gm_f1 := At.grow0 ((((((((((((((((((((((At.of (HZ.out.2 1 _ rfl)).below (Below.refl _ _).drew).below hb11).below hb12).below hb13).below hb14).below hb15).below (Below.refl _ _).drew).below hq6).below ((Below.refl _ _).alloc (Nat.le_refl _) (.cells #[.slice A6 14 q6, .slice An6 9 qn6] 35))).below hq7).below ((Below.refl _ _).alloc (Nat.le_refl _) (.cells #[.slice A7 14 q7, .slice An7 9 qn7] 35))).below hq8).below ((Below.refl _ _).alloc (Nat.le_refl _) (.cells #[.slice A8 14 q8, .slice An8 9 qn8] 35))).below hq9).below ((Below.refl _ _).alloc (Nat.le_refl _) (.cells #[.slice A9 14 q9, .slice An9 9 qn9] 35))).below (Below.refl _ _).drew).below hb1).below hb2).below hq10).below hb3).below hb4)
  repeat (refine ord_pas (by rfl) (fun K hK => ?_); go_simp; refine hK _ _ (fun w' hw' => (by first | (go_simp; done) | (go_simp; intro hh; cases hh))) ?_; clear hK K)
  clear gm_f1 em_f1
  have KB := kept_yes ((((((((((((((((((o_rb.below hb13).below hb14).below hb15).below (Below.refl _ _).drew).below hq6).below ((Below.refl _ _).alloc (Nat.le_refl _) (.cells #[.slice A6 14 q6, .slice An6 9 qn6] 35))).below hq7).below ((Below.refl _ _).alloc (Nat.le_refl _) (.cells #[.slice A7 14 q7, .slice An7 9 qn7] 35))).below hq8).below ((Below.refl _ _).alloc (Nat.le_refl _) (.cells #[.slice A8 14 q8, .slice An8 9 qn8] 35))).below hq9).below ((Below.refl _ _).alloc (Nat.le_refl _) (.cells #[.slice A9 14 q9, .slice An9 9 qn9] 35))).below (Below.refl _ _).drew).below hb1).below hb2).below hq10).below hb3).below hb4).rd ((((((((((((((((((((((HRB.out.below HZ.out.1).below (Below.refl _ _).drew).below hb11).below hb12).below hb13).below hb14).below hb15).below (Below.refl _ _).drew).below hq6).below ((Below.refl _ _).alloc (Nat.le_refl _) (.cells #[.slice A6 14 q6, .slice An6 9 qn6] 35))).below hq7).below ((Below.refl _ _).alloc (Nat.le_refl _) (.cells #[.slice A7 14 q7, .slice An7 9 qn7] 35))).below hq8).below ((Below.refl _ _).alloc (Nat.le_refl _) (.cells #[.slice A8 14 q8, .slice An8 9 qn8] 35))).below hq9).below ((Below.refl _ _).alloc (Nat.le_refl _) (.cells #[.slice A9 14 q9, .slice An9 9 qn9] 35))).below (Below.refl _ _).drew).below hb1).below hb2).below hq10).below hb3).below hb4) (by omega)
  (refine ord_call (by rfl) (fun K hK => ?_); go_simp; refine hK _ _ ?_; clear hK K)
  refine (KB).mono ?_
  rintro e w5 ⟨rfl, hb5⟩
  refine ⟨_, rfl, Grow.of_below hb5, ?_⟩
  (refine ord_norm (fun K hK => ?_); go_simp; refine hK _ ?_; clear hK K)
  have em_f2 := (((((((((((((((((((((((At.of (HZ.out.2 2 _ rfl)).below (Below.refl _ _).drew).below hb11).below hb12).below hb13).below hb14).below hb15).below (Below.refl _ _).drew).below hq6).below ((Below.refl _ _).alloc (Nat.le_refl _) (.cells #[.slice A6 14 q6, .slice An6 9 qn6] 35))).below hq7).below ((Below.refl _ _).alloc (Nat.le_refl _) (.cells #[.slice A7 14 q7, .slice An7 9 qn7] 35))).below hq8).below ((Below.refl _ _).alloc (Nat.le_refl _) (.cells #[.slice A8 14 q8, .slice An8 9 qn8] 35))).below hq9).below ((Below.refl _ _).alloc (Nat.le_refl _) (.cells #[.slice A9 14 q9, .slice An9 9 qn9] 35))).below (Below.refl _ _).drew).below hb1).below hb2).below hq10).below hb3).below hb4).below hb5).1
  have gm_f2 := At.grow0 (((((((((((((((((((((((At.of (HZ.out.2 2 _ rfl)).below (Below.refl _ _).drew).below hb11).below hb12).below hb13).below hb14).below hb15).below (Below.refl _ _).drew).below hq6).below ((Below.refl _ _).alloc (Nat.le_refl _) (.cells #[.slice A6 14 q6, .slice An6 9 qn6] 35))).below hq7).below ((Below.refl _ _).alloc (Nat.le_refl _) (.cells #[.slice A7 14 q7, .slice An7 9 qn7] 35))).below hq8).below ((Below.refl _ _).alloc (Nat.le_refl _) (.cells #[.slice A8 14 q8, .slice An8 9 qn8] 35))).below hq9).below ((Below.refl _ _).alloc (Nat.le_refl _) (.cells #[.slice A9 14 q9, .slice An9 9 qn9] 35))).below (Below.refl _ _).drew).below hb1).below hb2).below hq10).below hb3).below hb4).below hb5)
  repeat (refine ord_pas (by rfl) (fun K hK => ?_); go_simp; refine hK _ _ (fun w' hw' => (by first | (go_simp; done) | (go_simp; intro hh; cases hh))) ?_; clear hK K)
  clear gm_f2 em_f2
  have KK := kept_yes ((((((((((((((((((o_rk.below hb14).below hb15).below (Below.refl _ _).drew).below hq6).below ((Below.refl _ _).alloc (Nat.le_refl _) (.cells #[.slice A6 14 q6, .slice An6 9 qn6] 35))).below hq7).below ((Below.refl _ _).alloc (Nat.le_refl _) (.cells #[.slice A7 14 q7, .slice An7 9 qn7] 35))).below hq8).below ((Below.refl _ _).alloc (Nat.le_refl _) (.cells #[.slice A8 14 q8, .slice An8 9 qn8] 35))).below hq9).below ((Below.refl _ _).alloc (Nat.le_refl _) (.cells #[.slice A9 14 q9, .slice An9 9 qn9] 35))).below (Below.refl _ _).drew).below hb1).below hb2).below hq10).below hb3).below hb4).below hb5).rd (((((((((((((((((((((((HRK.out.below HZ.out.1).below (Below.refl _ _).drew).below hb11).below hb12).below hb13).below hb14).below hb15).below (Below.refl _ _).drew).below hq6).below ((Below.refl _ _).alloc (Nat.le_refl _) (.cells #[.slice A6 14 q6, .slice An6 9 qn6] 35))).below hq7).below ((Below.refl _ _).alloc (Nat.le_refl _) (.cells #[.slice A7 14 q7, .slice An7 9 qn7] 35))).below hq8).below ((Below.refl _ _).alloc (Nat.le_refl _) (.cells #[.slice A8 14 q8, .slice An8 9 qn8] 35))).below hq9).below ((Below.refl _ _).alloc (Nat.le_refl _) (.cells #[.slice A9 14 q9, .slice An9 9 qn9] 35))).below (Below.refl _ _).drew).below hb1).below hb2).below hq10).below hb3).below hb4).below hb5) (by omega)
  (refine ord_call (by rfl) (fun K hK => ?_); go_simp; refine hK _ _ ?_; clear hK K)
  refine (KK).mono ?_
  rintro e w6 ⟨rfl, hb6⟩
  refine ⟨_, rfl, Grow.of_below hb6, ?_⟩
  (refine ord_norm (fun K hK => ?_); go_simp; refine hK _ ?_; clear hK K)
  repeat (refine ord_pas (by rfl) (fun K hK => ?_); go_simp; refine hK _ _ (fun w' hw' => (by first | (go_simp; done) | (go_simp; intro hh; cases hh))) ?_; clear hK K)
  refine ord_nil ?_
  clear KA KB KK
  have HF7 := Lib.hid (bt (bt (bt (bt (bt (bt (bt (bt (bt (bt (bt (bt (bt hq7 ((Below.refl _ _).alloc (Nat.le_refl _) (.cells #[.slice A7 14 q7, .slice An7 9 qn7] 35))) hq8) ((Below.refl _ _).alloc (Nat.le_refl _) (.cells #[.slice A8 14 q8, .slice An8 9 qn8] 35))) hq9) ((Below.refl _ _).alloc (Nat.le_refl _) (.cells #[.slice A9 14 q9, .slice An9 9 qn9] 35))) (Below.refl _ _).drew) hb1) hb2) hq10) hb3) hb4) hb5) hb6)
  have C7 := Lib.hid (And.intro (((((((((((((hrow7.below ((Below.refl _ _).alloc (Nat.le_refl _) (.cells #[.slice A7 14 q7, .slice An7 9 qn7] 35))).below hq8).below ((Below.refl _ _).alloc (Nat.le_refl _) (.cells #[.slice A8 14 q8, .slice An8 9 qn8] 35))).below hq9).below ((Below.refl _ _).alloc (Nat.le_refl _) (.cells #[.slice A9 14 q9, .slice An9 9 qn9] 35))).below (Below.refl _ _).drew).below hb1).below hb2).below hq10).below hb3).below hb4).below hb5).below hb6).rd (And.intro (((((((((((((hel7.below ((Below.refl _ _).alloc (Nat.le_refl _) (.cells #[.slice A7 14 q7, .slice An7 9 qn7] 35))).below hq8).below ((Below.refl _ _).alloc (Nat.le_refl _) (.cells #[.slice A8 14 q8, .slice An8 9 qn8] 35))).below hq9).below ((Below.refl _ _).alloc (Nat.le_refl _) (.cells #[.slice A9 14 q9, .slice An9 9 qn9] 35))).below (Below.refl _ _).drew).below hb1).below hb2).below hq10).below hb3).below hb4).below hb5).below hb6) (((((((((((((At.boxc (i := 0) (v := .slice A7 14 q7) (t := 35) (b := wv7.heap.size) wv7 #[.slice A7 14 q7, .slice An7 9 qn7] rfl (by simp)).below hq8).below ((Below.refl _ _).alloc (Nat.le_refl _) (.cells #[.slice A8 14 q8, .slice An8 9 qn8] 35))).below hq9).below ((Below.refl _ _).alloc (Nat.le_refl _) (.cells #[.slice A9 14 q9, .slice An9 9 qn9] 35))).below (Below.refl _ _).drew).below hb1).below hb2).below hq10).below hb3).below hb4).below hb5).below hb6)))
  have C8 := Lib.hid (And.intro (((((((((((hrow8.below ((Below.refl _ _).alloc (Nat.le_refl _) (.cells #[.slice A8 14 q8, .slice An8 9 qn8] 35))).below hq9).below ((Below.refl _ _).alloc (Nat.le_refl _) (.cells #[.slice A9 14 q9, .slice An9 9 qn9] 35))).below (Below.refl _ _).drew).below hb1).below hb2).below hq10).below hb3).below hb4).below hb5).below hb6).rd (And.intro (((((((((((hel8.below ((Below.refl _ _).alloc (Nat.le_refl _) (.cells #[.slice A8 14 q8, .slice An8 9 qn8] 35))).below hq9).below ((Below.refl _ _).alloc (Nat.le_refl _) (.cells #[.slice A9 14 q9, .slice An9 9 qn9] 35))).below (Below.refl _ _).drew).below hb1).below hb2).below hq10).below hb3).below hb4).below hb5).below hb6) (((((((((((At.boxc (i := 0) (v := .slice A8 14 q8) (t := 35) (b := wv8.heap.size) wv8 #[.slice A8 14 q8, .slice An8 9 qn8] rfl (by simp)).below hq9).below ((Below.refl _ _).alloc (Nat.le_refl _) (.cells #[.slice A9 14 q9, .slice An9 9 qn9] 35))).below (Below.refl _ _).drew).below hb1).below hb2).below hq10).below hb3).below hb4).below hb5).below hb6)))
  have C9 := Lib.hid (And.intro (((((((((hrow9.below ((Below.refl _ _).alloc (Nat.le_refl _) (.cells #[.slice A9 14 q9, .slice An9 9 qn9] 35))).below (Below.refl _ _).drew).below hb1).below hb2).below hq10).below hb3).below hb4).below hb5).below hb6).rd (And.intro (((((((((hel9.below ((Below.refl _ _).alloc (Nat.le_refl _) (.cells #[.slice A9 14 q9, .slice An9 9 qn9] 35))).below (Below.refl _ _).drew).below hb1).below hb2).below hq10).below hb3).below hb4).below hb5).below hb6) (((((((((At.boxc (i := 0) (v := .slice A9 14 q9) (t := 35) (b := wv9.heap.size) wv9 #[.slice A9 14 q9, .slice An9 9 qn9] rfl (by simp)).below (Below.refl _ _).drew).below hb1).below hb2).below hq10).below hb3).below hb4).below hb5).below hb6)))
  have C71 := Lib.hid (((((((((((((At.boxc (i := 1) (v := .slice An7 9 qn7) (t := 35) (b := wv7.heap.size) wv7 #[.slice A7 14 q7, .slice An7 9 qn7] rfl (by simp)).below hq8).below ((Below.refl _ _).alloc (Nat.le_refl _) (.cells #[.slice A8 14 q8, .slice An8 9 qn8] 35))).below hq9).below ((Below.refl _ _).alloc (Nat.le_refl _) (.cells #[.slice A9 14 q9, .slice An9 9 qn9] 35))).below (Below.refl _ _).drew).below hb1).below hb2).below hq10).below hb3).below hb4).below hb5).below hb6)
  have C81 := Lib.hid (((((((((((At.boxc (i := 1) (v := .slice An8 9 qn8) (t := 35) (b := wv8.heap.size) wv8 #[.slice A8 14 q8, .slice An8 9 qn8] rfl (by simp)).below hq9).below ((Below.refl _ _).alloc (Nat.le_refl _) (.cells #[.slice A9 14 q9, .slice An9 9 qn9] 35))).below (Below.refl _ _).drew).below hb1).below hb2).below hq10).below hb3).below hb4).below hb5).below hb6)
  have C91 := Lib.hid (((((((((At.boxc (i := 1) (v := .slice An9 9 qn9) (t := 35) (b := wv9.heap.size) wv9 #[.slice A9 14 q9, .slice An9 9 qn9] rfl (by simp)).below (Below.refl _ _).drew).below hb1).below hb2).below hq10).below hb3).below hb4).below hb5).below hb6)
  obtain ⟨wa, rfl⟩ : ∃ wa : World, wa = w6 := ⟨_, rfl⟩
  have WZ : Hid (wv6.heap.size + 1 ≤ wa.heap.size) := by show _ ≤ _; have := HF7.out.size; simpa using this
  obtain ⟨S, hS⟩ : ∃ S : Nat → Prop, Hid (S = fun j => Blk (ss7 ++ ss9 ++ ss8) j ∨ wa.heap.size ≤ j) := ⟨_, rfl⟩
  have HSB : Hid (∀ j, S j → (wv6.heap.size + 1 ≤ j ∧ j ≠ wv7.heap.size ∧ j ≠ wv8.heap.size ∧ j ≠ wv9.heap.size)) := fun j hj => by
    rw [hS.out] at hj
    have z7 := Z7.out
    have z8 := Z8.out
    have z9 := Z9.out
    have zb := C9.out.2.2.2
    have zw := WZ.out
    simp only at zb
    rcases hj with hj | hj
    · rcases hj.of_app with hj | hj
      · rcases hj.of_app with hj | hj
        · have := B7.out _ hj; omega
        · have := B9.out _ hj; omega
      · have := B8.out _ hj; omega
    · omega
  have u7 := fun w' (g : Ex S wa.drew w') => (At.ex5 (w := wa.drew) C7.out.2.2 g (fun h => (HSB.out _ h).2.1 rfl)).1
  have u8 := fun w' (g : Ex S wa.drew w') => (At.ex5 (w := wa.drew) C8.out.2.2 g (fun h => (HSB.out _ h).2.2.1 rfl)).1
  have u9 := fun w' (g : Ex S wa.drew w') => (At.ex5 (w := wa.drew) C9.out.2.2 g (fun h => (HSB.out _ h).2.2.2 rfl)).1
  have v7 := C7.out.2.2.1
  have v8 := C8.out.2.2.1
  have v9 := C9.out.2.2.1
  go_wp2_with fail
  refine wp_region_fltR (Ex S) (Ex.refl S) (fun _ _ _ h k => h.trans k) (fun _ _ h => Ex.of_grow h) [(0, 1), (0, 2), (0, 4), (0, 5), (0, 7), (0, 8), (3, 0), (3, 3), (3, 6), (3, 9), (3, 10), (0, 11)] (by kernel_rfl) (by kernel_rfl) ?_
  repeat (refine flt_pasS (by rfl) (fun K hK => ?_); go_simp; refine hK _ _ (fun w' hw' => (by first | (go_simp; done) | (go_simp; intro hh; cases hh))) ?_; clear hK K)
  clear u7 u8 u9 v7 v8 v9
  (refine flt_actX (by rfl) (fun K hK => ?_); go_simp)
  refine hK _ _ ⟨Ex.alloc _ _, ?_⟩
  clear hK K
  (refine flt_norm (fun K hK => ?_); go_simp; refine hK _ ?_; clear hK K)
  have HLOW : Hid (∀ {w1 w2 : World}, Below wa.heap.size w1 w2 → Ex S w1 w2) := fun h => Ex.of_low h (fun j hj => by rw [hS.out]; exact .inr hj)
  refine flt_appV (.tmp 159) (.tmp 161) (by rfl) rfl rfl elNatK rfl rfl (B := wa.heap.size) (vs := []) (RowV.litm wa.drew (Nat.le_refl _)) (RdV.k1 (C7.out.1.below ((Below.refl _ _).drew.alloc (Nat.le_refl _) _))) (shv_one _) (by omega) (by omega) (by simp) (fun w' h => HLOW.out h) (fun A_a1 c_a1 wa1 ha1 hba1 => ?_)
  have K1 : Hid (RowV 23 wa.heap.size wa1 A_a1 14 c_a1 (ss7.map shv) ∧ Below wa.heap.size wa wa1) := ⟨(by have h := ha1; simp only [Nat.zero_add, List.nil_append] at h; exact h), ((Below.refl _ _).drew.alloc (Nat.le_refl _) _).trans hba1⟩
  clear ha1 hba1
  (refine flt_norm (fun K hK => ?_); go_simp; refine hK _ ?_; clear hK K)
  refine flt_appV (.tmp 162) (.tmp 164) (by rfl) rfl rfl elNatK rfl rfl (B := wa.heap.size) K1.out.1 (RdV.k1 (C9.out.1.below K1.out.2)) (shv_one _) (by omega) (by omega) K1.out.2.size (fun w' h => HLOW.out h) (fun A_a2 c_a2 wa2 ha2 hba2 => ?_)
  have K2 : Hid (RowV 23 wa.heap.size wa2 A_a2 28 c_a2 ((ss7 ++ ss9).map shv) ∧ Below wa.heap.size wa wa2) := ⟨(by rw [List.map_append]; exact ha2), K1.out.2.trans hba2⟩
  clear ha2 hba2 K1
  (refine flt_norm (fun K hK => ?_); go_simp; refine hK _ ?_; clear hK K)
  refine flt_appV (.tmp 165) (.tmp 167) (by rfl) rfl rfl elNatK rfl rfl (B := wa.heap.size) K2.out.1 (RdV.k1 (C8.out.1.below K2.out.2)) (shv_one _) (by omega) (by omega) K2.out.2.size (fun w' h => HLOW.out h) (fun A_a3 c_a3 wa3 ha3 hba3 => ?_)
  have K3 : Hid (RowV 23 wa.heap.size wa3 A_a3 42 c_a3 ((ss7 ++ ss9 ++ ss8).map shv) ∧ Below wa.heap.size wa wa3) := ⟨(by rw [List.map_append (l₂ := ss8)]; exact ha3), K2.out.2.trans hba3⟩
  clear ha3 hba3 K2
  (refine flt_norm (fun K hK => ?_); go_simp; refine hK _ ?_; clear hK K)
  have ELS : Hid (∃ F, Els 41 (wv6.heap.size + 1) wa3 (ss7 ++ ss9 ++ ss8) F) := by
    have z7 := Z7.out
    have z8 := Z8.out
    have z9 := Z9.out
    exact ⟨_, (((C7.out.2.1.below K3.out.2).mono (by simp)).app ((C9.out.2.1.below K3.out.2).mono (by simp; omega))).app ((C8.out.2.1.below K3.out.2).mono (by simp; omega))⟩
  have HAPT : Hid (Apt (ss7 ++ ss9 ++ ss8)) := by
    have z7 := Z7.out
    have z8 := Z8.out
    have z9 := Z9.out
    refine (hap7.app hap9 (fun b h1 h2 => ?_)).app hap8 (fun b h1 h2 => ?_)
    · have := B7.out b h1; have := B9.out b h2; omega
    · have q8 := B8.out b h2
      rcases h1.of_app with h1 | h1
      · have := B7.out b h1; omega
      · have := B9.out b h1; omega
  have HLN : Hid (∀ (i : Nat) (s : Sh), (ss7 ++ ss9 ++ ss8)[i]? = some s → s.2.1 ≤ 67108864) := get_app (P := fun s => s.2.1 ≤ 67108864) (get_app (P := fun s => s.2.1 ≤ 67108864) hle7.get hle9.get) hle8.get
  obtain ⟨FA, hFA⟩ := ELS.out
  have HFA := Lib.hid hFA
  clear hFA ELS
  have WZ3 : wv6.heap.size + 1 ≤ wa3.heap.size := Nat.le_trans WZ.out K3.out.2.size
  (refine flt_callX (by rfl) (fun K hK => ?_); go_simp; refine hK _ _ ?_; clear hK K)
  refine (apart05L_any (B2 := wv6.heap.size + 1) K3.out.1 HFA.out HAPT.out HLN.out (by omega) WZ3).mono ?_
  rintro e wz2 ⟨rfl, hxz⟩
  refine ⟨_, rfl, hxz.mono (fun b hb => by rw [hS.out]; rcases hb with hb | hb; exact .inl hb; exact .inr (Nat.le_trans K3.out.2.size hb)), ?_⟩
  (refine flt_norm (fun K hK => ?_); go_simp; refine hK _ ?_; clear hK K)
  repeat (refine flt_pasS (by rfl) (fun K hK => ?_); go_simp; refine hK _ _ (fun w' hw' => (by first | (go_simp; done) | (go_simp; intro hh; cases hh))) ?_; clear hK K)
  refine flt_nil ?_
  have HXW : Hid (Ex S wa wz2) := (HLOW.out K3.out.2).trans (hxz.mono (fun b hb => by rw [hS.out]; rcases hb with hb | hb; exact .inl hb; exact .inr (Nat.le_trans K3.out.2.size hb)))
  have HZ2 : Hid (Below (wv6.heap.size + 1) wa wz2) := HXW.out.below (fun j hj => (HSB.out j hj).1) WZ.out
  clear hxz
  have HZS : Hid (Below (World.alloc wv6 (.cells #[.slice A6 14 q6, .slice An6 9 qn6] 35)).heap.size (World.alloc wv6 (.cells #[.slice A6 14 q6, .slice An6 9 qn6] 35)) wz2) := HF7.out.trans (by have h := HZ2.out; simpa using h)
  have HB0 : Hid (Below wz.heap.size wz wz2) := bt HBSZ.out HZS.out
  have F0 := Lib.hid (G0.out.below HZS.out)
  have F1 := Lib.hid (G1.out.below HZS.out)
  have F2 := Lib.hid (G2.out.below HZS.out)
  have F3 := Lib.hid (G3.out.below HZS.out)
  have F4 := Lib.hid (G4.out.below HZS.out)
  have F5 := Lib.hid (G5.out.below HZS.out)
  have FRA := Lib.hid (GRA.out.below HZS.out)
  have FRB := Lib.hid (GRB.out.below HZS.out)
  have FRK := Lib.hid (GRK.out.below HZS.out)
  have FWL := Lib.hid (And.intro (GWL.out.1.below HZS.out) (And.intro (GWL.out.2.1.below HZS.out) (GWL.out.2.2.below HZS.out)))
  have FWM := Lib.hid (And.intro (GWM.out.1.below HZS.out) (And.intro (GWM.out.2.1.below HZS.out) (GWM.out.2.2.below HZS.out)))
  have FLL := Lib.hid (And.intro (GLL.out.1.below HZS.out) (And.intro (GLL.out.2.1.below HZS.out) (GLL.out.2.2.below HZS.out)))
  have FMM := Lib.hid (And.intro (GMM.out.1.below HZS.out) (And.intro (GMM.out.2.1.below HZS.out) (GMM.out.2.2.below HZS.out)))
  have FNN := Lib.hid (And.intro (GNN.out.1.below HZS.out) (And.intro (GNN.out.2.1.below HZS.out) (And.intro (GNN.out.2.2.1.below HZS.out) (And.intro (GNN.out.2.2.2.1.below HZS.out) (GNN.out.2.2.2.2.below HZS.out)))))
  clear HZS HZ2 HXW HF7 C7 C8 C9 C71 C81 C91 HSB hS HLOW K3 HFA HAPT HLN B7 B8 B9 Z7 Z8 Z9 HBS HBSZ G0 G1 G2 G3 G4 G5 GRA GRB GRK GWL GWM GLL GMM GNN
  go_wp2_with fail
  go_loopw [20] (fun iv wr => ∃ i : Nat, Hid (Below wz2.heap.size wz2 wr) ∧ i ≤ nL ∧ iv = .int .i64 (i : Int)) (fun iv _ => nL - (intOf iv).toNat)
  case atStart => exact ⟨0, Below.refl _ _, Nat.zero_le _, rfl⟩
  case round =>
    obtain ⟨i, hI, hi, rfl⟩ := hrel
    by_cases hlt : i < nL
    · obtain ⟨s, hs⟩ : ∃ s, ssL[i]? = some s := ⟨_, List.getElem?_eq_getElem (by rw [HSL.out.2.1]; exact hlt)⟩
      obtain ⟨r, hr⟩ : ∃ r, hsL[i]? = some r := ⟨_, List.getElem?_eq_getElem (by rw [hlenL]; exact hlt)⟩
      have o := FWL.out.2.2 i r hr
      have d := FLL.out.2.2 i s hs
      have e1 : r.2.1 = s.2.1 + 2 := by
        have h := o.len
        rw [List.length_append, d.len] at h
        simpa using h.symm
      have M1 := HKL.out i s hs
      obtain ⟨gw, ew, _, hgw⟩ := FWL.out.1.form (by omega)
      have P1 : At wz2 ⟨gw, i, none⟩ (shv r) := ⟨by have h := FWL.out.1; rw [ew] at h; rw [h.cell hlt, List.getElem?_map, hr]; rfl, hgw⟩
      obtain ⟨g2, eg2, _, hAt⟩ := given_at FWL.out.2.1 hlenL
      have P2 := hAt i r hr
      injection eg2 with eg2
      injection eg2 with eg2 _ _
      subst eg2
      obtain ⟨b, off, el, hb, hc⟩ := FLL.out.2.1.2 (by omega)
      have P3 : At wz2 ⟨b, off + i, none⟩ (shv s) := ⟨by rw [hc i hlt, List.getElem?_map, hs]; rfl, hb⟩
      clear hc hs hr hAt
      obtain ⟨A1, n1, c1⟩ := s
      obtain ⟨A2, n2, c2⟩ := r
      simp only at e1 M1
      subst e1
      have P2 : At wz2 ⟨gL, i, none⟩ (.slice A2 n1 c2) := P2
      have HOR : Hid (Rd .u64 wz2 A2 (n1 + 2) c2 (FL i ++ [71, 72])) := o.rd
      have HDR : Hid (Rd .u64 wz2 A1 n1 c1 (FL i)) := d
      have RU := HOR.out.upto (j := n1) (by omega)
      rw [List.take_left' HDR.out.len] at RU
      have HRU := Lib.hid RU
      clear o d RU
      subst ew el
      have P1 : At wz2 ⟨gw, i, none⟩ (.slice A2 (n1 + 2) c2) := P1
      have P3 : At wz2 ⟨b, off + i, none⟩ (.slice A1 n1 c1) := P3
      have i1 : (0 : Int) ≤ (i : Int) := by omega
      have i2 : (i : Int) < (nL : Int) := by omega
      have i4 : (i : Int) < (nL : Int) + 1 := by omega
      go_wp2_with fail
      have e_fx := (F3.out.below hI.out).1
      have g_fx := At.grow (F3.out.below hI.out)
      have e_p1 := (P1.below hI.out).1
      have g_p1 := At.grow (P1.below hI.out)
      have e_p3 := (P3.below hI.out).1
      have g_p3 := At.grow (P3.below hI.out)
      refine wp_region_grow none [(true, 0), (true, 1), (true, 2), (true, 3), (true, 4), (true, 5), (true, 6), (true, 7), (true, 8), (false, 9), (true, 10), (true, 11), (true, 12), (true, 13), (true, 14), (true, 15), (true, 16), (true, 17), (true, 18), (true, 19), (true, 20), (false, 21), (true, 22), (true, 23)] (by kernel_rfl) (by kernel_rfl) ?_
      repeat (refine ord_pas (by rfl) (fun K hK => ?_); go_simp; refine hK _ _ (fun w' hw' => (by first | (go_simp; done) | (go_simp; intro hh; cases hh))) ?_; clear hK K)
      (refine ord_call (by rfl) (fun K hK => ?_); go_simp; refine hK _ _ ?_; clear hK K)
      refine (kept_yes ((HOR.out.below hI.out).below (Below.refl _ _).drew) ((HDR.out.below hI.out).below (Below.refl _ _).drew) M1).mono ?_
      rintro e w7 ⟨rfl, hb7⟩
      refine ⟨_, rfl, Grow.of_below hb7, ?_⟩
      (refine ord_norm (fun K hK => ?_); go_simp; refine hK _ ?_; clear hK K)
      have em_fx := (((F3.out.below hI.out).below (Below.refl _ _).drew).below hb7).1
      have gm_fx := At.grow0 (((F3.out.below hI.out).below (Below.refl _ _).drew).below hb7)
      have em_p2 := (((P2.below hI.out).below (Below.refl _ _).drew).below hb7).1
      have gm_p2 := At.grow0 (((P2.below hI.out).below (Below.refl _ _).drew).below hb7)
      have em_p3 := (((P3.below hI.out).below (Below.refl _ _).drew).below hb7).1
      have gm_p3 := At.grow0 (((P3.below hI.out).below (Below.refl _ _).drew).below hb7)
      repeat (refine ord_pas (by rfl) (fun K hK => ?_); go_simp; refine hK _ _ (fun w' hw' => (by first | (go_simp; done) | (go_simp; intro hh; cases hh))) ?_; clear hK K)
      clear gm_fx em_fx gm_p2 em_p2 gm_p3 em_p3
      (refine ord_call (by rfl) (fun K hK => ?_); go_simp; refine hK _ _ ?_; clear hK K)
      refine (same5k_any (((HRU.out.below hI.out).below (Below.refl _ _).drew).below hb7) (((HDR.out.below hI.out).below (Below.refl _ _).drew).below hb7) rfl (by omega)).mono ?_
      rintro e w8 ⟨rfl, hb8⟩
      refine ⟨_, rfl, Grow.of_below hb8, ?_⟩
      (refine ord_norm (fun K hK => ?_); go_simp; refine hK _ ?_; clear hK K)
      repeat (refine ord_pas (by rfl) (fun K hK => ?_); go_simp; refine hK _ _ (fun w' hw' => (by first | (go_simp; done) | (go_simp; intro hh; cases hh))) ?_; clear hK K)
      refine ord_nil ?_
      have HN := Lib.hid (bt hI.out (bt (bt (Below.refl _ _).drew hb7) hb8))
      clear hI
      go_wp2
      go_roundw
      case rel => exact ⟨i + 1, HN, by omega, by go_num⟩
      case measure => simp [intOf]; omega
    · obtain rfl : nL = i := by omega
      obtain ⟨wy, rfl⟩ : ∃ wy : World, wy = wr := ⟨_, rfl⟩
      have HB1 : Hid (Below wz.heap.size wz wy) := bt HB0.out hI.out
      replace F0 := Lib.hid (F0.out.below hI.out)
      replace F1 := Lib.hid (F1.out.below hI.out)
      replace F2 := Lib.hid (F2.out.below hI.out)
      replace F3 := Lib.hid (F3.out.below hI.out)
      replace F4 := Lib.hid (F4.out.below hI.out)
      replace F5 := Lib.hid (F5.out.below hI.out)
      replace FRA := Lib.hid (FRA.out.below hI.out)
      replace FRB := Lib.hid (FRB.out.below hI.out)
      replace FRK := Lib.hid (FRK.out.below hI.out)
      replace FWL := Lib.hid (And.intro (FWL.out.1.below hI.out) (And.intro (FWL.out.2.1.below hI.out) (FWL.out.2.2.below hI.out)))
      replace FWM := Lib.hid (And.intro (FWM.out.1.below hI.out) (And.intro (FWM.out.2.1.below hI.out) (FWM.out.2.2.below hI.out)))
      replace FLL := Lib.hid (And.intro (FLL.out.1.below hI.out) (And.intro (FLL.out.2.1.below hI.out) (FLL.out.2.2.below hI.out)))
      replace FMM := Lib.hid (And.intro (FMM.out.1.below hI.out) (And.intro (FMM.out.2.1.below hI.out) (FMM.out.2.2.below hI.out)))
      replace FNN := Lib.hid (And.intro (FNN.out.1.below hI.out) (And.intro (FNN.out.2.1.below hI.out) (And.intro (FNN.out.2.2.1.below hI.out) (And.intro (FNN.out.2.2.2.1.below hI.out) (FNN.out.2.2.2.2.below hI.out)))))
      clear hI HB0
      go_wp2_with fail
      go_loopw [21] (fun iv wr => ∃ i : Nat, Hid (Below wy.heap.size wy wr) ∧ i ≤ nM ∧ iv = .int .i64 (i : Int)) (fun iv _ => nM - (intOf iv).toNat)
      case atStart => exact ⟨0, Below.refl _ _, Nat.zero_le _, rfl⟩
      case round =>
        obtain ⟨i, hI, hi, rfl⟩ := hrel
        by_cases hlt : i < nM
        · obtain ⟨s, hs⟩ : ∃ s, ssM[i]? = some s := ⟨_, List.getElem?_eq_getElem (by rw [HSM.out.2.1]; exact hlt)⟩
          obtain ⟨r, hr⟩ : ∃ r, hsM[i]? = some r := ⟨_, List.getElem?_eq_getElem (by rw [hlenM]; exact hlt)⟩
          have o := FWM.out.2.2 i r hr
          have d := FMM.out.2.2 i s hs
          have e1 : r.2.1 = s.2.1 + 2 := by
            have h := o.len
            rw [List.length_append, d.len] at h
            simpa using h.symm
          have M1 := HKM.out i s hs
          obtain ⟨gw, ew, _, hgw⟩ := FWM.out.1.form (by omega)
          have P1 : At wy ⟨gw, i, none⟩ (shv r) := ⟨by have h := FWM.out.1; rw [ew] at h; rw [h.cell hlt, List.getElem?_map, hr]; rfl, hgw⟩
          obtain ⟨g2, eg2, _, hAt⟩ := given_at FWM.out.2.1 hlenM
          have P2 := hAt i r hr
          injection eg2 with eg2
          injection eg2 with eg2 _ _
          subst eg2
          obtain ⟨b, off, el, hb, hc⟩ := FMM.out.2.1.2 (by omega)
          have P3 : At wy ⟨b, off + i, none⟩ (shv s) := ⟨by rw [hc i hlt, List.getElem?_map, hs]; rfl, hb⟩
          clear hc hs hr hAt
          obtain ⟨A1, n1, c1⟩ := s
          obtain ⟨A2, n2, c2⟩ := r
          simp only at e1 M1
          subst e1
          have P2 : At wy ⟨gM, i, none⟩ (.slice A2 n1 c2) := P2
          have HOR : Hid (Rd .u64 wy A2 (n1 + 2) c2 (FM i ++ [71, 72])) := o.rd
          have HDR : Hid (Rd .u64 wy A1 n1 c1 (FM i)) := d
          have RU := HOR.out.upto (j := n1) (by omega)
          rw [List.take_left' HDR.out.len] at RU
          have HRU := Lib.hid RU
          clear o d RU
          subst ew el
          have P1 : At wy ⟨gw, i, none⟩ (.slice A2 (n1 + 2) c2) := P1
          have P3 : At wy ⟨b, off + i, none⟩ (.slice A1 n1 c1) := P3
          have i1 : (0 : Int) ≤ (i : Int) := by omega
          have i2 : (i : Int) < (nM : Int) := by omega
          have i4 : (i : Int) < (nM : Int) + 1 := by omega
          go_wp2_with fail
          have e_fx := (F4.out.below hI.out).1
          have g_fx := At.grow (F4.out.below hI.out)
          have e_p1 := (P1.below hI.out).1
          have g_p1 := At.grow (P1.below hI.out)
          have e_p3 := (P3.below hI.out).1
          have g_p3 := At.grow (P3.below hI.out)
          refine wp_region_grow none [(true, 0), (true, 1), (true, 2), (true, 3), (true, 4), (true, 5), (true, 6), (true, 7), (true, 8), (false, 9), (true, 10), (true, 11), (true, 12), (true, 13), (true, 14), (true, 15), (true, 16), (true, 17), (true, 18), (true, 19), (true, 20), (false, 21), (true, 22), (true, 23)] (by kernel_rfl) (by kernel_rfl) ?_
          repeat (refine ord_pas (by rfl) (fun K hK => ?_); go_simp; refine hK _ _ (fun w' hw' => (by first | (go_simp; done) | (go_simp; intro hh; cases hh))) ?_; clear hK K)
          (refine ord_call (by rfl) (fun K hK => ?_); go_simp; refine hK _ _ ?_; clear hK K)
          refine (kept_yes ((HOR.out.below hI.out).below (Below.refl _ _).drew) ((HDR.out.below hI.out).below (Below.refl _ _).drew) M1).mono ?_
          rintro e w9 ⟨rfl, hb9⟩
          refine ⟨_, rfl, Grow.of_below hb9, ?_⟩
          (refine ord_norm (fun K hK => ?_); go_simp; refine hK _ ?_; clear hK K)
          have em_fx := (((F4.out.below hI.out).below (Below.refl _ _).drew).below hb9).1
          have gm_fx := At.grow0 (((F4.out.below hI.out).below (Below.refl _ _).drew).below hb9)
          have em_p2 := (((P2.below hI.out).below (Below.refl _ _).drew).below hb9).1
          have gm_p2 := At.grow0 (((P2.below hI.out).below (Below.refl _ _).drew).below hb9)
          have em_p3 := (((P3.below hI.out).below (Below.refl _ _).drew).below hb9).1
          have gm_p3 := At.grow0 (((P3.below hI.out).below (Below.refl _ _).drew).below hb9)
          repeat (refine ord_pas (by rfl) (fun K hK => ?_); go_simp; refine hK _ _ (fun w' hw' => (by first | (go_simp; done) | (go_simp; intro hh; cases hh))) ?_; clear hK K)
          clear gm_fx em_fx gm_p2 em_p2 gm_p3 em_p3
          (refine ord_call (by rfl) (fun K hK => ?_); go_simp; refine hK _ _ ?_; clear hK K)
          refine (same5k_any (((HRU.out.below hI.out).below (Below.refl _ _).drew).below hb9) (((HDR.out.below hI.out).below (Below.refl _ _).drew).below hb9) rfl (by omega)).mono ?_
          rintro e w10 ⟨rfl, hb10⟩
          refine ⟨_, rfl, Grow.of_below hb10, ?_⟩
          (refine ord_norm (fun K hK => ?_); go_simp; refine hK _ ?_; clear hK K)
          repeat (refine ord_pas (by rfl) (fun K hK => ?_); go_simp; refine hK _ _ (fun w' hw' => (by first | (go_simp; done) | (go_simp; intro hh; cases hh))) ?_; clear hK K)
          refine ord_nil ?_
          have HN := Lib.hid (bt hI.out (bt (bt (Below.refl _ _).drew hb9) hb10))
          clear hI
          go_wp2
          go_roundw
          case rel => exact ⟨i + 1, HN, by omega, by go_num⟩
          case measure => simp [intOf]; omega
        · obtain rfl : nM = i := by omega
          obtain ⟨wx, rfl⟩ : ∃ wx : World, wx = wr := ⟨_, rfl⟩
          have HB2 : Hid (Below wz.heap.size wz wx) := bt HB1.out hI.out
          replace F0 := Lib.hid (F0.out.below hI.out)
          replace F1 := Lib.hid (F1.out.below hI.out)
          replace F2 := Lib.hid (F2.out.below hI.out)
          replace F3 := Lib.hid (F3.out.below hI.out)
          replace F4 := Lib.hid (F4.out.below hI.out)
          replace F5 := Lib.hid (F5.out.below hI.out)
          replace FRA := Lib.hid (FRA.out.below hI.out)
          replace FRB := Lib.hid (FRB.out.below hI.out)
          replace FRK := Lib.hid (FRK.out.below hI.out)
          replace FWL := Lib.hid (And.intro (FWL.out.1.below hI.out) (And.intro (FWL.out.2.1.below hI.out) (FWL.out.2.2.below hI.out)))
          replace FWM := Lib.hid (And.intro (FWM.out.1.below hI.out) (And.intro (FWM.out.2.1.below hI.out) (FWM.out.2.2.below hI.out)))
          replace FLL := Lib.hid (And.intro (FLL.out.1.below hI.out) (And.intro (FLL.out.2.1.below hI.out) (FLL.out.2.2.below hI.out)))
          replace FMM := Lib.hid (And.intro (FMM.out.1.below hI.out) (And.intro (FMM.out.2.1.below hI.out) (FMM.out.2.2.below hI.out)))
          replace FNN := Lib.hid (And.intro (FNN.out.1.below hI.out) (And.intro (FNN.out.2.1.below hI.out) (And.intro (FNN.out.2.2.1.below hI.out) (And.intro (FNN.out.2.2.2.1.below hI.out) (FNN.out.2.2.2.2.below hI.out)))))
          clear hI HB1
          obtain ⟨g2, eg2, hAtL, _⟩ := given_at FWL.out.2.1 hlenL
          injection eg2 with eg2
          injection eg2 with eg2 _ _
          subst eg2
          obtain ⟨g3, eg3, hAtM, _⟩ := given_at FWM.out.2.1 hlenM
          injection eg3 with eg3
          injection eg3 with eg3 _ _
          subst eg3
          have HTL := Lib.hid hAtL
          have HTM := Lib.hid hAtM
          clear hAtL hAtM
          have i1 : (0 : Int) ≤ (nL : Int) := by omega
          have i2 : (nL : Int) < (nL : Int) + 1 := by omega
          have i3 : (0 : Int) ≤ (nM : Int) := by omega
          have i4 : (nM : Int) < (nM : Int) + 1 := by omega
          have x0 := F0.out.1
          have KA := kept_yes FRA.out.rd FNN.out.2.2.2.1 (by omega)
          go_wp2_with fail
          refine (KA).mono ?_
          rintro e w11 ⟨rfl, hb11⟩
          clear x0 KA
          have x1 := (F1.out.below hb11).1
          have KB := kept_yes (FRB.out.below hb11).rd (FNN.out.2.2.2.2.below hb11) (by omega)
          go_wp2_with fail
          refine (KB).mono ?_
          rintro e w12 ⟨rfl, hb12⟩
          clear x1 KB
          have x3 := ((F3.out.below hb11).below hb12).1
          have x4 := ((F4.out.below hb11).below hb12).1
          have y3 := ((HTL.out.below hb11).below hb12).1
          have y4 := ((HTM.out.below hb11).below hb12).1
          have OA := Lib.hid (((FRA.out.below hb11).below hb12).mono (Nat.zero_le _))
          have OB := Lib.hid ((FRB.out.below hb11).below hb12)
          have OK := Lib.hid ((FRK.out.below hb11).below hb12)
          have OL := Lib.hid (And.intro ((FWL.out.2.1.below hb11).below hb12) ((FWL.out.2.2.below hb11).below hb12))
          have OM := Lib.hid (And.intro ((FWM.out.2.1.below hb11).below hb12) ((FWM.out.2.2.below hb11).below hb12))
          have E0 := Lib.hid ((F0.out.below hb11).below hb12)
          have E1 := Lib.hid ((F1.out.below hb11).below hb12)
          have E2 := Lib.hid ((F2.out.below hb11).below hb12)
          have E3 := Lib.hid ((F3.out.below hb11).below hb12)
          have E4 := Lib.hid ((F4.out.below hb11).below hb12)
          have E5 := Lib.hid ((F5.out.below hb11).below hb12)
          have HBL : Hid (Below wz.heap.size wz w12) := bt HB2.out (bt hb11 hb12)
          have hgl0 : xa.length = nA' := HRA.out.len
          go_wp2_with fail
          go_loopw [22] (fun iv wr => ∃ (k2 : Nat) (gs : List Nat), Hid (Own .u64 41 0 wr (some ⟨ga, 0, none⟩) (nA' + 2) c_ra (gs ++ [71, 72]) ∧ gs.length = nA' ∧ All W gs ∧ Ex (fun j => j = ga) w12 wr) ∧ k2 ≤ nA' ∧ iv = .int .i64 (k2 : Int)) (fun iv _ => nA' - (intOf iv).toNat)
          case atStart => exact ⟨0, xa, ⟨OA.out, hgl0, HVA.out.1, Ex.refl _ _⟩, Nat.zero_le _, rfl⟩
          case round =>
            obtain ⟨k2, gs, hI, hk2, rfl⟩ := hrel
            by_cases hlt : k2 < nA'
            · have hgl := hI.out.2.1
              have hc1 := hI.out.1.cell (i := k2) (by omega)
              have hf1 := hI.out.1.frozen (i := k2)
              generalize nth (gs ++ [71, 72]) k2 = d1 at hc1
              obtain ⟨q1, hq1⟩ : ∃ q1 : Nat, q1 = d1 / 3 := ⟨_, rfl⟩
              have he1 : (d1 : Int) / 3 = (q1 : Int) := by rw [hq1]; rfl
              have he2 : (d1 : Int).tdiv 3 = (q1 : Int) := by rw [Int.tdiv_eq_ediv_of_nonneg (by omega)]; exact he1
              clear hq1
              obtain ⟨e1, hw1, hE1⟩ := wrap_u64n5 (q1 : Int)
              obtain ⟨e, he, heW⟩ := wrap_u64n5 ((e1 : Int) + 1)
              clear hE1
              have i1 : (0 : Int) ≤ (k2 : Int) := by omega
              have i2 : (k2 : Int) < (nA' : Int) + 2 := by omega
              have i3 : (k2 : Int) < (nA' : Int) := by omega
              have HN : Hid (Own .u64 41 0 (wr.setCell ⟨ga, k2, none⟩ (.int .u64 (e : Int))) (some ⟨ga, 0, none⟩) (nA' + 2) c_ra (gs.set k2 e ++ [71, 72]) ∧ (gs.set k2 e).length = nA' ∧ All W (gs.set k2 e) ∧ Ex (fun j => j = ga) w12 (wr.setCell ⟨ga, k2, none⟩ (.int .u64 (e : Int)))) := by
                refine ⟨?_, by rw [List.length_set]; exact hgl, hI.out.2.2.1.set heW k2, hI.out.2.2.2.trans (Ex.setCell _ _ _ _ rfl)⟩
                have h1 := hI.out.1.stored (i := k2) (x := e)
                rwa [List.set_append_left _ _ (by omega)] at h1
              clear hI hgl heW
              go_wp2
              go_roundw
              case rel => exact ⟨k2 + 1, _, HN, by omega, by go_num⟩
              case measure => simp [intOf]; omega
            · obtain rfl : nA' = k2 := by omega
              obtain ⟨wd, rfl⟩ : ∃ wd : World, wd = wr := ⟨_, rfl⟩
              have EXS := Lib.hid hI.out.2.2.2
              obtain ⟨X3, ns3, T3, W3⟩ := both05 (val W gs) b k xs ys nL nM kN (by omega) (by omega) HLM.out.1
              have HT3 := Lib.hid T3
              have HW3 := Lib.hid W3
              clear T3 W3
              have HBD : Hid (Below wz.heap.size wz wd) := HBL.out.trans (EXS.out.below (fun j hj => by have := HGE.out.1; omega) HBL.out.size)
              have PB := Lib.hid (OB.out.ex EXS.out (fun a e hs => by cases e; have := HGE.out; simp only at hs; omega))
              have PK := Lib.hid (OK.out.ex EXS.out (fun a e hs => by cases e; have := HGE.out; simp only at hs; omega))
              have PL := Lib.hid (And.intro (OL.out.1.ex EXS.out (fun a e hs => by cases e; have := HGE.out; simp only at hs; omega)) (OL.out.2.ex EXS.out (fun b hb hs => by have := OL.out.2.base hb; have := HGE.out; omega)))
              have PM := Lib.hid (And.intro (OM.out.1.ex EXS.out (fun a e hs => by cases e; have := HGE.out; simp only at hs; omega)) (OM.out.2.ex EXS.out (fun b hb hs => by have := OM.out.2.base hb; have := HGE.out; omega)))
              have HGW : w.heap.size < ga := by have h1 := HGE.out.1; have h2 := (HZ.out.2 0 _ rfl).2.2; simp only at h2; omega
              have D0 := Lib.hid (E0.out.ex5 EXS.out (by simp only; omega))
              have D1 := Lib.hid (E1.out.ex5 EXS.out (by simp only; omega))
              have D2 := Lib.hid (E2.out.ex5 EXS.out (by simp only; omega))
              have D3 := Lib.hid (E3.out.ex5 EXS.out (by simp only; omega))
              have D4 := Lib.hid (E4.out.ex5 EXS.out (by simp only; omega))
              have RA := (hI.out.1.rd).upto (j := nA') (by omega)
              rw [List.take_left' hI.out.2.1] at RA
              have RB := (PB.out.rd).upto (j := nB') (by omega)
              rw [List.take_left' HRB.out.len] at RB
              have RK := (PK.out.rd).upto (j := nK') (by omega)
              rw [List.take_left' HRK.out.len] at RK
              have HR3 := Lib.hid RA
              have NA3 : Hid (Num wd (.slice (some ⟨ga, 0, none⟩) nA' c_ra) (val W gs) 30) := ⟨_, _, _, gs, rfl, RA, hI.out.2.2.1, rfl, LA1⟩
              have NB3 : Hid (Num wd (.slice (some ⟨gb, 0, none⟩) nB' c_rb) b 30) := ⟨_, _, _, xb, rfl, RB, HVB.out.1, HVB.out.2, LB1⟩
              have NK3 : Hid (Num wd (.slice (some ⟨gk, 0, none⟩) nK' c_rk) k 30) := ⟨_, _, _, xk, rfl, RK, HVK.out.1, HVK.out.2, LK1⟩
              have NL3 := Lib.hid (given_nums PL.out.1 PL.out.2 hlenL HSL.out.2.2.2 HLL.out.1)
              have NM3 := Lib.hid (given_nums PM.out.1 PM.out.2 hlenM HSM.out.2.2.2 HLM.out.1)
              have HAG := Lib.hid hI.out.2.2.1
              clear RA RB RK hI EXS PB PK PL PM
              go_wp2_with fail
              refine (copied05r_any HR3.out (by omega)).mono ?_
              rintro e w13 ⟨A_nw, c_nw, rfl, o_nw, hb13⟩
              have NW3 : Hid (Num w13 (.slice A_nw nA' c_nw) (val W gs) 30) := ⟨_, _, _, gs, rfl, o_nw.rd, HAG.out, rfl, LA1⟩
              go_wp2_with fail
              have e_f1 := (D1.out.below hb13).1
              have g_f1 := At.grow (D1.out.below hb13)
              have e_f2 := (D2.out.below hb13).1
              have g_f2 := At.grow (D2.out.below hb13)
              have e_f3 := (D3.out.below hb13).1
              have g_f3 := At.grow (D3.out.below hb13)
              have e_f4 := (D4.out.below hb13).1
              have g_f4 := At.grow (D4.out.below hb13)
              refine wp_region_grow none [(true, 0), (true, 1), (true, 2), (true, 3), (true, 4), (true, 5), (true, 7), (true, 8), (true, 9), (true, 10), (true, 11), (true, 12), (true, 13), (true, 14), (true, 15), (true, 16), (false, 6), (false, 17), (false, 18), (true, 19), (true, 20), (true, 21), (false, 22), (true, 23), (true, 24)] (by kernel_rfl) (by kernel_rfl) ?_
              repeat (refine ord_pas (by rfl) (fun K hK => ?_); go_simp; refine hK _ _ (fun w' hw' => (by first | (go_simp; done) | (go_simp; intro hh; cases hh))) ?_; clear hK K)
              (refine ord_call (by rfl) (fun K hK => ?_); go_simp; refine hK _ _ ?_; clear hK K)
              refine (HT3.out ((NA3.out.below hb13).below (Below.refl _ _).drew) ((NB3.out.below hb13).below (Below.refl _ _).drew) ((NK3.out.below hb13).below (Below.refl _ _).drew) ((NL3.out.below hb13).below (Below.refl _ _).drew) ((NM3.out.below hb13).below (Below.refl _ _).drew)).mono ?_
              rintro e wv11 ⟨A11, q11, ss11, An11, qn11, rfl, ⟨hrow11, hel11⟩, hns11, hq11, hap11, hln11, hle11⟩
              refine ⟨_, rfl, (Grow.of_below hq11), ?_⟩
              (refine ord_norm (fun K hK => ?_); go_simp; refine hK _ ?_; clear hK K)
              repeat (refine ord_pas (by rfl) (fun K hK => ?_); go_simp; refine hK _ _ (fun w' hw' => (by first | (go_simp; done) | (go_simp; intro hh; cases hh))) ?_; clear hK K)
              (refine ord_call (by rfl) (fun K hK => ?_); go_simp; refine hK _ _ ?_; clear hK K)
              refine (HW3.out ((NW3.out.below (Below.refl _ _).drew).below hq11) (((((HNB.out.below HZ.out.1).below HBD.out).below hb13).below (Below.refl _ _).drew).below hq11) (((((HNK.out.below HZ.out.1).below HBD.out).below hb13).below (Below.refl _ _).drew).below hq11) ((((HNL.out.below HBD.out).below hb13).below (Below.refl _ _).drew).below hq11) ((((HNM.out.below HBD.out).below hb13).below (Below.refl _ _).drew).below hq11)).mono ?_
              rintro e wv12 ⟨A12, q12, ss12, An12, qn12, rfl, ⟨hrow12, hel12⟩, hns12, hq12⟩
              refine ⟨_, rfl, (Grow.of_below hq12), ?_⟩
              (refine ord_norm (fun K hK => ?_); go_simp; refine hK _ ?_; clear hK K)
              (refine ord_call (by rfl) (fun K hK => ?_); go_simp; refine hK _ _ ?_; clear hK K)
              refine (said_yes (hrow11.below hq12).rd hrow12.rd (hel11.below hq12).hds (show Hds wv12 ss12 (fun i => X3.getD i []) from hel12) hle11.get (by omega) (hns11.below hq12).rd hns12.rd (by omega)).mono ?_
              rintro e w14 ⟨rfl, hb14⟩
              refine ⟨_, rfl, Grow.of_below hb14, ?_⟩
              (refine ord_norm (fun K hK => ?_); go_simp; refine hK _ ?_; clear hK K)
              repeat (refine ord_pas (by rfl) (fun K hK => ?_); go_simp; refine hK _ _ (fun w' hw' => (by first | (go_simp; done) | (go_simp; intro hh; cases hh))) ?_; clear hK K)
              (refine ord_call (by rfl) (fun K hK => ?_); go_simp; refine hK _ _ ?_; clear hK K)
              refine (same5k_any (((((HR3.out.below hb13).below (Below.refl _ _).drew).below hq11).below hq12).below hb14) ((((o_nw.rd.below (Below.refl _ _).drew).below hq11).below hq12).below hb14) rfl (by omega)).mono ?_
              rintro e w15 ⟨rfl, hb15⟩
              refine ⟨_, rfl, Grow.of_below hb15, ?_⟩
              (refine ord_norm (fun K hK => ?_); go_simp; refine hK _ ?_; clear hK K)
              repeat (refine ord_pas (by rfl) (fun K hK => ?_); go_simp; refine hK _ _ (fun w' hw' => (by first | (go_simp; done) | (go_simp; intro hh; cases hh))) ?_; clear hK K)
              refine ord_nil ?_
              clear g_f1 e_f1 g_f2 e_f2 g_f3 e_f3 g_f4 e_f4
              have HEND : Hid (Below w.heap.size w w15) := bt (bt HZ.out.1 HBD.out) (bt (bt (bt (bt (bt hb13 (Below.refl _ _).drew) hq11) hq12) hb14) hb15)
              go_wp2
              go_ret
              exact ⟨by simp, HEND.out⟩
end Go.Proofs.YtamfhmmcnlollaaGreat
