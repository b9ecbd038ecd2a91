/-
  GcdParts: by plain products: Bezout's sum, inverses, roots, what Count takes out.
-/
import Derived.Test.YtjglonmnjcnhbaaGcdDv
import Derived.Test.YtjglonmnjcnhbaaGcdEx
import Derived.Test.YtjglonmnjcnhbaaGcdCR
import Derived.Deep.CutRange
namespace Go.Proofs.Ytjglonmnjcnhbaa
open Go.RowKit
set_option linter.unusedVariables false

theorem ext_sum {a b x y : Nat} {ng : Bool} (h : ExtOk a b x y ng) : sg false x * sg false a + sg ng y * sg false b = sg false (Nat.gcd a b) := by
  obtain ⟨h1, _, _⟩ := h
  rcases h1 with ⟨rfl, _, h1⟩ | ⟨rfl, h1⟩
  · rw [sg_false, sg_false, sg_false, sg_false, sg_true, Int.neg_mul, ← Int.natCast_mul, ← Int.natCast_mul]; omega
  · rw [sg_false, sg_false, sg_false, sg_false, sg_false, ← Int.natCast_mul, ← Int.natCast_mul]; omega
theorem rd_num {w : World} {A : Option Addr} {n c x L : Nat} (h : Rd .u64 w A n c (dg W x)) (hL : n ≤ L) : Num w (.slice A n c) x L := ⟨A, n, c, dg W x, rfl, h, dg_all W_gt x, dg_val W_gt x, hL⟩
/-- gcd.Inverse: an inverse, or an error -/
theorem ginv_cases (a m : Nat) : ∃ (xs : List Nat) (er : Int),
    (∀ (w : World) (v u : Value), Num w v a 30 → Num w u m 30 → Calls Try.prog 17 #[v, u] w (GIx w xs er 30)) ∧
    (er ≠ 0 ∨ er = 0 ∧ ∃ x, x < m ∧ Cong m a 1 x ∧ xs = dg W x) := by
  by_cases hok : 0 < m ∧ Nat.gcd a m = 1
  · obtain ⟨x, hx, hc⟩ := inv_exists hok.1 hok.2
    refine ⟨dg W x, 0, fun w v u h1 h2 => (ginverse_any h1 h2 (by omega) (by omega)).mono fun e w' ⟨A, n, c, er, he, hb, hl, hh⟩ => ?_, .inr ⟨rfl, x, hx, hc, rfl⟩⟩
    rcases hh.out with ⟨_, _, rfl, x', hx', hc', ho⟩ | ⟨_, _, _, h3 | h3⟩
    · obtain rfl := inv_uniq hc hc' hx hx'
      exact ⟨A, n, c, he, hb, hl, ho.rd⟩
    · omega
    · exact absurd hok.2 h3.2.1
  · by_cases hm : m = 0
    · refine ⟨[], 1, fun w v u h1 h2 => (ginverse_any h1 h2 (by omega) (by omega)).mono fun e w' ⟨A, n, c, er, he, hb, hl, hh⟩ => ?_, .inl (by decide)⟩
      rcases hh.out with ⟨h1, h2, _⟩ | ⟨rfl, rfl, rfl, h3 | h3⟩
      · exact absurd ⟨h1, h2⟩ hok
      · obtain ⟨_, rfl⟩ := h3
        exact ⟨_, _, _, he, hb, hl, rd_none⟩
      · omega
    · refine ⟨[], 4, fun w v u h1 h2 => (ginverse_any h1 h2 (by omega) (by omega)).mono fun e w' ⟨A, n, c, er, he, hb, hl, hh⟩ => ?_, .inl (by decide)⟩
      rcases hh.out with ⟨h1, h2, _⟩ | ⟨rfl, rfl, rfl, h3 | h3⟩
      · exact absurd ⟨h1, h2⟩ hok
      · omega
      · obtain ⟨_, _, rfl⟩ := h3
        exact ⟨_, _, _, he, hb, hl, rd_none⟩
set_option maxHeartbeats 16000000 in
set_option maxRecDepth 100000 in
theorem gcdParts_any {vA vB vK : Value} {A3 A4 : Option Addr} {n3 c3 n4 c4 a b k LA LB LK : Nat} {N : Int} {xs ys ls ms : List Nat} {w : World} (hA : Num w vA a LA) (hB : Num w vB b LB) (hK : Num w vK k LK) (h3 : Nums w A3 n3 c3 xs ls) (h4 : Nums w A4 n4 c4 ys ms) :
    Calls Try.prog 3 #[.agg #[vA, vB, vK, .slice A3 n3 c3, .slice A4 n4 c4, .int .i64 N]] w (Keeps (.bool true) w) := by
  obtain ⟨kM, hkM, hM1⟩ : ∃ kM : Int, kM = (if 1 > N then 1 else N) ∧ 1 ≤ kM := ⟨_, rfl, by split <;> omega⟩
  obtain ⟨kN, hkN, hN1⟩ : ∃ kN : Nat, (kN : Int) = (if 40 < kM then 40 else kM) ∧ 1 ≤ kN ∧ kN ≤ 40 := ⟨(if 40 < kM then 40 else kM).toNat, by split <;> omega, by split <;> omega, by split <;> omega⟩
  have hmax := fun (ts : Array TypeId) (t : TypeId) (w : World) => (show (Builtin.max_ ts t #[.int .i64 N, .int .i64 1]).run Try.prog w = .ok (.int .i64 kM) w by rw [run_max_int2, hkM])
  have hmin := fun (ts : Array TypeId) (t : TypeId) (w : World) => (show (Builtin.min_ ts t #[.int .i64 kM, .int .i64 40]).run Try.prog w = .ok (.int .i64 (kN : Int)) w by rw [run_min_int2, hkN])
  have HK1 : Hid (1 ≤ kN ∧ kN ≤ 40) := hN1
  clear hkM hkN hM1 hN1
  have HA := Lib.hid hA
  have HB := Lib.hid hB
  have HK := Lib.hid hK
  have HS3 := Lib.hid h3
  have HS4 := Lib.hid h4
  obtain ⟨pA, nA, cA, _, rfl, _⟩ := id hA
  obtain ⟨pB, nB, cB, _, rfl, _⟩ := id hB
  obtain ⟨pK, nK, cK, _, rfl, _⟩ := id hK
  clear hA hB hK h3 h4
  go_enter Try.func3, Try.ntmps3
  go_wp2_with fail
  refine (fixed05_any).mono ?_
  rintro e w1 ⟨rfl, hb1⟩
  obtain ⟨z0a, z0b, z0c⟩ := ((Cel.box (i := 0) (v := .slice pA nA cA) (t := 26) (b := w.heap.size) w #[.slice pA nA cA, .slice pB nB cB, .slice pK nK cK, .slice A3 n3 c3, .slice A4 n4 c4, .int .i64 N] rfl (by simp)).below hb1)
  obtain ⟨z1a, z1b, z1c⟩ := ((Cel.box (i := 1) (v := .slice pB nB cB) (t := 26) (b := w.heap.size) w #[.slice pA nA cA, .slice pB nB cB, .slice pK nK cK, .slice A3 n3 c3, .slice A4 n4 c4, .int .i64 N] rfl (by simp)).below hb1)
  obtain ⟨z2a, z2b, z2c⟩ := ((Cel.box (i := 2) (v := .slice pK nK cK) (t := 26) (b := w.heap.size) w #[.slice pA nA cA, .slice pB nB cB, .slice pK nK cK, .slice A3 n3 c3, .slice A4 n4 c4, .int .i64 N] rfl (by simp)).below hb1)
  obtain ⟨z3a, z3b, z3c⟩ := ((Cel.box (i := 3) (v := .slice A3 n3 c3) (t := 26) (b := w.heap.size) w #[.slice pA nA cA, .slice pB nB cB, .slice pK nK cK, .slice A3 n3 c3, .slice A4 n4 c4, .int .i64 N] rfl (by simp)).below hb1)
  obtain ⟨z4a, z4b, z4c⟩ := ((Cel.box (i := 4) (v := .slice A4 n4 c4) (t := 26) (b := w.heap.size) w #[.slice pA nA cA, .slice pB nB cB, .slice pK nK cK, .slice A3 n3 c3, .slice A4 n4 c4, .int .i64 N] rfl (by simp)).below hb1)
  obtain ⟨z5a, z5b, z5c⟩ := ((Cel.box (i := 5) (v := .int .i64 N) (t := 26) (b := w.heap.size) w #[.slice pA nA cA, .slice pB nB cB, .slice pK nK cK, .slice A3 n3 c3, .slice A4 n4 c4, .int .i64 N] rfl (by simp)).below hb1)
  go_wp2_with fail
  refine (less05_any (bt ((Below.refl _ _).alloc (Nat.le_refl _) (.cells #[.slice pA nA cA, .slice pB nB cB, .slice pK nK cK, .slice A3 n3 c3, .slice A4 n4 c4, .int .i64 N] 26)) hb1) HA.out HB.out HK.out HS3.out HS4.out).mono ?_
  rintro e wl ⟨uA, uB, uK, pL, nL, cL, vsL, pM, nM, cM, vsM, rfl, ⟨hA, hB, hK⟩, ⟨hnL, oL, vL⟩, ⟨hnM, oM, vM⟩, hbl⟩
  have HOL := Lib.hid (And.intro oL (And.intro oM z0c))
  clear oL oM
  have HLB : Hid (LawB w #[.slice pA nA cA, .slice pB nB cB, .slice pK nK cK, .slice A3 n3 c3, .slice A4 n4 c4, .int .i64 N] wl) := by
    refine ⟨(bt (bt ((Below.refl _ _).alloc (Nat.le_refl _) (.cells #[.slice pA nA cA, .slice pB nB cB, .slice pK nK cK, .slice A3 n3 c3, .slice A4 n4 c4, .int .i64 N] 26)) hb1) hbl), fun i v hv => ?_⟩
    rcases six hv with ⟨rfl, rfl⟩ | ⟨rfl, rfl⟩ | ⟨rfl, rfl⟩ | ⟨rfl, rfl⟩ | ⟨rfl, rfl⟩ | ⟨rfl, rfl⟩
    · exact (((Cel.box (i := 0) (v := .slice pA nA cA) (t := 26) (b := w.heap.size) w #[.slice pA nA cA, .slice pB nB cB, .slice pK nK cK, .slice A3 n3 c3, .slice A4 n4 c4, .int .i64 N] rfl (by simp)).below hb1).below hbl)
    · exact (((Cel.box (i := 1) (v := .slice pB nB cB) (t := 26) (b := w.heap.size) w #[.slice pA nA cA, .slice pB nB cB, .slice pK nK cK, .slice A3 n3 c3, .slice A4 n4 c4, .int .i64 N] rfl (by simp)).below hb1).below hbl)
    · exact (((Cel.box (i := 2) (v := .slice pK nK cK) (t := 26) (b := w.heap.size) w #[.slice pA nA cA, .slice pB nB cB, .slice pK nK cK, .slice A3 n3 c3, .slice A4 n4 c4, .int .i64 N] rfl (by simp)).below hb1).below hbl)
    · exact (((Cel.box (i := 3) (v := .slice A3 n3 c3) (t := 26) (b := w.heap.size) w #[.slice pA nA cA, .slice pB nB cB, .slice pK nK cK, .slice A3 n3 c3, .slice A4 n4 c4, .int .i64 N] rfl (by simp)).below hb1).below hbl)
    · exact (((Cel.box (i := 4) (v := .slice A4 n4 c4) (t := 26) (b := w.heap.size) w #[.slice pA nA cA, .slice pB nB cB, .slice pK nK cK, .slice A3 n3 c3, .slice A4 n4 c4, .int .i64 N] rfl (by simp)).below hb1).below hbl)
    · exact (((Cel.box (i := 5) (v := .int .i64 N) (t := 26) (b := w.heap.size) w #[.slice pA nA cA, .slice pB nB cB, .slice pK nK cK, .slice A3 n3 c3, .slice A4 n4 c4, .int .i64 N] rfl (by simp)).below hb1).below hbl)
  clear z0a z0b z0c z1a z1b z1c z2a z2b z2c z3a z3b z3c z4a z4b z4c z5a z5b z5c
  obtain ⟨z0a, z0b, z0c⟩ := HLB.out.2 0 _ rfl
  obtain ⟨z1a, z1b, z1c⟩ := HLB.out.2 1 _ rfl
  obtain ⟨z2a, z2b, z2c⟩ := HLB.out.2 2 _ rfl
  obtain ⟨z3a, z3b, z3c⟩ := HLB.out.2 3 _ rfl
  obtain ⟨z4a, z4b, z4c⟩ := HLB.out.2 4 _ rfl
  obtain ⟨z5a, z5b, z5c⟩ := HLB.out.2 5 _ rfl
  obtain ⟨pA', nA', cA', _, rfl, _⟩ := id hA
  obtain ⟨pB', nB', cB', _, rfl, _⟩ := id hB
  obtain ⟨pK', nK', cK', _, rfl, _⟩ := id hK
  generalize a % W ^ 30 = a at *
  generalize b % W ^ 30 = b at *
  generalize k % W ^ 30 = k at *
  have HNA := Lib.hid hA
  have HNB := Lib.hid hB
  have HNK := Lib.hid hK
  have HVL := Lib.hid vL
  have HVM := Lib.hid vM
  clear hA hB hK vL vM
  go_wp2_with fail
  obtain ⟨wz, hwz⟩ : ∃ wz : World, wz = ((((((wl.setCell ⟨w.heap.size, 0, none⟩ (.slice pA' nA' cA')).setCell ⟨w.heap.size, 1, none⟩ (.slice pB' nB' cB')).setCell ⟨w.heap.size, 2, none⟩ (.slice pK' nK' cK')).setCell ⟨w.heap.size, 3, none⟩ (.slice pL nL cL)).setCell ⟨w.heap.size, 4, none⟩ (.slice pM nM cM)).setCell ⟨w.heap.size, 5, none⟩ (.int .i64 N)) := ⟨_, rfl⟩
  rw [← hwz]
  have HZ : Hid (LawB w #[.slice pA' nA' cA', .slice pB' nB' cB', .slice pK' nK' cK', .slice pL nL cL, .slice pM nM cM, .int .i64 N] wz) := by
    show LawB _ _ _
    rw [hwz]; exact HLB.out.set6
  have HNL : Hid (Nums wz pL nL cL (vsL.map (mval w)) (List.replicate nL 30)) := by
    show Nums _ _ _ _ _ _
    refine HVL.out.nums (B := w.heap.size + 1) (T := 23) ?_ HZ.out.1
    rw [hwz]
    exact ((((((HOL.out.1.mono HOL.out.2.2).set_low (p := ⟨w.heap.size, 0, none⟩) (by simp) _).set_low (p := ⟨w.heap.size, 1, none⟩) (by simp) _).set_low (p := ⟨w.heap.size, 2, none⟩) (by simp) _).set_low (p := ⟨w.heap.size, 3, none⟩) (by simp) _).set_low (p := ⟨w.heap.size, 4, none⟩) (by simp) _).set_low (p := ⟨w.heap.size, 5, none⟩) (by simp) _
  have HNM : Hid (Nums wz pM nM cM (vsM.map (mval w)) (List.replicate nM 30)) := by
    show Nums _ _ _ _ _ _
    refine HVM.out.nums (B := w.heap.size + 1) (T := 23) ?_ HZ.out.1
    rw [hwz]
    exact ((((((HOL.out.2.1.mono HOL.out.2.2).set_low (p := ⟨w.heap.size, 0, none⟩) (by simp) _).set_low (p := ⟨w.heap.size, 1, none⟩) (by simp) _).set_low (p := ⟨w.heap.size, 2, none⟩) (by simp) _).set_low (p := ⟨w.heap.size, 3, none⟩) (by simp) _).set_low (p := ⟨w.heap.size, 4, none⟩) (by simp) _).set_low (p := ⟨w.heap.size, 5, none⟩) (by simp) _
  clear z0a z0b z0c z1a z1b z1c z2a z2b z2c z3a z3b z3c z4a z4b z4c z5a z5b z5c hwz
  generalize vsL.map (mval w) = xs at *
  generalize vsM.map (mval w) = ys at *
  have HLL := Lib.hid HNL.out.1
  have HLM := Lib.hid HNM.out.1
  have hsL : lsum (List.replicate nL 30) ≤ 600 := by rw [lsum_replicate]; omega
  have hsM : lsum (List.replicate nM 30) ≤ 600 := by rw [lsum_replicate]; omega
  obtain ⟨xi, eri, CI1, CI2⟩ := ginv_cases a b
  have HGI := Lib.hid CI1
  have HGC := Lib.hid CI2
  clear CI1 CI2
  go_wp2_with fail
  have e_f0 := (At.of (HZ.out.2 0 _ rfl)).1
  have g_f0 := At.growB (At.of (HZ.out.2 0 _ rfl))
  have e_f1 := (At.of (HZ.out.2 1 _ rfl)).1
  have g_f1 := At.growB (At.of (HZ.out.2 1 _ rfl))
  refine wp_region_fltR (KB (wz).heap.size) (KB.refl _) (KB.trans _) (KB.of_grow _) [(0, 0), (0, 1), (0, 3), (0, 4), (2, 11), (2, 12), (1, 2), (1, 5), (1, 6), (0, 7), (0, 8), (0, 9), (0, 10), (4, 11), (4, 12), (0, 13), (3, 14), (3, 15)] (by kernel_rfl) (by kernel_rfl) ?_
  repeat (refine flt_pas (by rfl) (fun K hK => ?_); go_simp; refine hK _ _ (fun w' hw' => (by first | (go_simp; done) | (go_simp; intro hh; cases hh))) ?_; clear hK K)
  refine flt_alloc ((World.drew wz).heap.size) 30 #[.bool false, .slice none 0 0] (by rfl) rfl (fun w1 => (by go_simp)) (Nat.le_refl _) ?_
  refine flt_alloc ((World.drew wz).heap.size) 30 #[.bool false, .slice none 0 0] (by rfl) rfl (fun w1 => (by go_simp)) (Nat.le_refl _) ?_
  refine flt_call (by rfl) (fun w1 hw1 K hK => ?_); go_simp; refine hK _ _ ?_; clear hK K
  refine (copied05_any (((HNA.out.below HZ.out.1).below (below_drewN _ 1)).below hw1.below) (by omega)).mono ?_
  rintro e w2 ⟨A_ca, n_ca, c_ca, xs_ca, rfl, o_ca, a_ca, v_ca, hb2, l_ca⟩
  have V_ca := Lib.hid v_ca
  clear v_ca
  refine ⟨_, rfl, Grow.of_below hb2, ?_⟩
  (refine flt_norm (fun K hK => ?_); go_simp; refine hK _ ?_; clear hK K)
  refine flt_call (by rfl) (fun w3 hw3 K hK => ?_); go_simp; refine hK _ _ ?_; clear hK K
  refine (copied05_any (((((HNB.out.below HZ.out.1).below (below_drewN _ 1)).below hw1.below).below hb2).below hw3.below) (by omega)).mono ?_
  rintro e w4 ⟨A_cb, n_cb, c_cb, xs_cb, rfl, o_cb, a_cb, v_cb, hb4, l_cb⟩
  have V_cb := Lib.hid v_cb
  clear v_cb
  refine ⟨_, rfl, Grow.of_below hb4, ?_⟩
  (refine flt_norm (fun K hK => ?_); go_simp; refine hK _ ?_; clear hK K)
  refine flt_call (by rfl) (fun w5 hw5 K hK => ?_); go_simp; refine hK _ _ ?_; clear hK K
  refine (extended_any ((((o_ca.numv a_ca V_ca.out l_ca).below hw3.below).below hb4).below hw5.below) ((o_cb.numv a_cb V_cb.out l_cb).below hw5.below) (by omega) (by omega)).mono ?_
  rintro e w6 ⟨vx, vy, neg_, A_g, n_g, c_g, A_x, n_x, c_x, A_y, n_y, c_y, hExt, rfl, ⟨o_g, o_x, o_y⟩, hb6, l_g, l_x, l_y⟩
  refine ⟨_, rfl, Grow.of_below hb6, ?_⟩
  (refine flt_norm (fun K hK => ?_); go_simp; refine hK _ ?_; clear hK K)
  have HE1 := Lib.hid hExt
  clear hExt
  obtain ⟨ng, rfl⟩ : ∃ ng : Bool, ng = neg_ := ⟨_, rfl⟩
  repeat (refine flt_pas (by rfl) (fun K hK => ?_); go_simp; refine hK _ _ (fun w' hw' => (by first | (go_simp; done) | (go_simp; intro hh; cases hh))) ?_; clear hK K)
  refine flt_landA (by rfl) (fun v_zx w7 hw7 hF => ?_)
  obtain ⟨b_zx, rfl, hB_zx, hc_zx⟩ := hF
  (refine flt_norm (fun K hK => ?_); go_simp; refine hK _ ?_; clear hK K)
  refine flt_land (by rfl) (fun v_zy w8 hw8 hF => ?_)
  obtain ⟨⟨b_zy, rfl, hB_zy, hc_zy⟩, hA_zy⟩ := hF
  (refine flt_norm (fun K hK => ?_); go_simp; refine hK _ ?_; clear hK K)
  have hc_zx := (hw8.below.block _ (Array.getElem?_eq_some_iff.1 hc_zx).1).trans hc_zx
  have hne : b_zy ≠ b_zx := hA_zy _ _ rfl rfl
  repeat (refine flt_pas (by rfl) (fun K hK => ?_); go_simp; refine hK _ _ (fun w' hw' => (by first | (go_simp; done) | (go_simp; intro hh; cases hh))) ?_; clear hK K)
  obtain ⟨cz1, cz2, cz3⟩ := cel_of hc_zx (j := 0) rfl
  obtain ⟨cz4, cz5, cz6⟩ := cel_of hc_zx (j := 1) rfl
  (refine flt_actX (by rfl) (fun K hK => ?_); go_simp)
  refine hK _ _ ⟨KB.set2 hB_zx, ?_⟩
  clear hK K
  (refine flt_norm (fun K hK => ?_); go_simp; refine hK _ ?_; clear hK K)
  obtain ⟨wv, hwv⟩ : ∃ wv : World, wv = ((w8).setCell ⟨b_zx, 0, none⟩ (.bool false)).setCell ⟨b_zx, 1, none⟩ (.slice A_x n_x c_x) := ⟨_, rfl⟩
  rw [← hwv]
  have HKX : Hid (Below ((World.drew wz)).heap.size ((World.drew wz)) (w8) ∧ (∃ B, Own .u64 54 B (w8) A_g n_g c_g (dg W (Nat.gcd a b))) ∧ (∃ B, Own .u64 54 B (w8) A_x n_x c_x (dg W vx)) ∧ (∃ B, Own .u64 54 B (w8) A_y n_y c_y (dg W vy))) := ⟨(bt (bt (bt (bt (bt (bt (bt hw1.below hb2) hw3.below) hb4) hw5.below) hb6) hw7.below) hw8.below), ⟨_, ((o_g.below hw7.below).below hw8.below)⟩, ⟨_, ((o_x.below hw7.below).below hw8.below)⟩, ⟨_, ((o_y.below hw7.below).below hw8.below)⟩⟩
  have hyx : ∀ (i j : Nat), (⟨b_zx, i, none⟩ : Addr) ≠ ⟨b_zy, j, none⟩ := fun i j e => by injection e with e _ _; exact hne e.symm
  have hxy : ∀ (i j : Nat), (⟨b_zy, i, none⟩ : Addr) ≠ ⟨b_zx, j, none⟩ := fun i j e => by injection e with e _ _; exact hne e
  have HV : Hid (Cel wv ⟨b_zx, 0, none⟩ (.bool false) ∧ Cel wv ⟨b_zx, 1, none⟩ (.slice A_x n_x c_x) ∧ Cel wv ⟨b_zy, 0, none⟩ (.bool false) ∧ Cel wv ⟨b_zy, 1, none⟩ (.slice none 0 0) ∧ BoxT 30 b_zy wv ∧ Below ((World.drew wz)).heap.size ((World.drew wz)) wv ∧ (∃ B, Own .u64 54 B wv A_g n_g c_g (dg W (Nat.gcd a b))) ∧ (∃ B, Own .u64 54 B wv A_x n_x c_x (dg W vx)) ∧ (∃ B, Own .u64 54 B wv A_y n_y c_y (dg W vy))) := by
    rw [hwv]
    have hbx : BoxT 30 b_zx _ := ⟨_, _, hc_zx⟩
    have hby : BoxT 30 b_zy _ := ⟨_, _, hc_zy⟩
    obtain ⟨k1, ⟨B1, k2⟩, ⟨B2, k3⟩, ⟨B3, k4⟩⟩ := HKX.out
    exact ⟨(Cel.put ⟨cz1, cz2, cz3⟩).set (by simp), (Cel.set ⟨cz4, cz5, cz6⟩ (by simp)).put, ((cel_of hc_zy (j := 0) rfl).set (hyx _ _)).set (hyx _ _), ((cel_of hc_zy (j := 1) rfl).set (hyx _ _)).set (hyx _ _), hby.set.set,
      (k1.setCell (p := ⟨b_zx, 0, none⟩) hB_zx _).setCell (p := ⟨b_zx, 1, none⟩) hB_zx _, ⟨B1, (k2.set_ty (p := ⟨b_zx, 0, none⟩) hbx (by decide)).set_ty (p := ⟨b_zx, 1, none⟩) hbx.set (by decide)⟩, ⟨B2, (k3.set_ty (p := ⟨b_zx, 0, none⟩) hbx (by decide)).set_ty (p := ⟨b_zx, 1, none⟩) hbx.set (by decide)⟩, ⟨B3, (k4.set_ty (p := ⟨b_zx, 0, none⟩) hbx (by decide)).set_ty (p := ⟨b_zx, 1, none⟩) hbx.set (by decide)⟩⟩
  clear cz1 cz2 cz3 cz4 cz5 cz6 HKX hwv
  obtain ⟨cz1, cz2, cz3⟩ := HV.out.2.2.1
  obtain ⟨cz4, cz5, cz6⟩ := HV.out.2.2.2.1
  (refine flt_actX (by rfl) (fun K hK => ?_); go_simp)
  refine hK _ _ ⟨KB.set2 hB_zy, ?_⟩
  clear hK K
  repeat (refine flt_pas (by rfl) (fun K hK => ?_); go_simp; refine hK _ _ (fun w' hw' => (by first | (go_simp; done) | (go_simp; intro hh; cases hh))) ?_; clear hK K)
  refine flt_nil ?_
  clear g_f0 e_f0 g_f1 e_f1
  obtain ⟨wu, hwu⟩ : ∃ wu : World, wu = (wv.setCell ⟨b_zy, 0, none⟩ (.bool ng)).setCell ⟨b_zy, 1, none⟩ (.slice A_y n_y c_y) := ⟨_, rfl⟩
  rw [← hwu]
  have HU : Hid (Below ((World.drew wz)).heap.size ((World.drew wz)) wu ∧ At wu ⟨b_zx, 0, none⟩ (.bool false) ∧ At wu ⟨b_zx, 1, none⟩ (.slice A_x n_x c_x) ∧ At wu ⟨b_zy, 0, none⟩ (.bool ng) ∧ At wu ⟨b_zy, 1, none⟩ (.slice A_y n_y c_y) ∧ Rd .u64 wu A_g n_g c_g (dg W (Nat.gcd a b)) ∧ Rd .u64 wu A_x n_x c_x (dg W vx) ∧ Rd .u64 wu A_y n_y c_y (dg W vy) ∧ Num wu (.slice A_g n_g c_g) (Nat.gcd a b) 60 ∧ Num wu (.slice A_x n_x c_x) vx 60 ∧ Num wu (.slice A_y n_y c_y) vy 60) := by
    rw [hwu]
    obtain ⟨k1, k2, k3, k4, k5, k6, ⟨B1, k7⟩, ⟨B2, k8⟩, ⟨B3, k9⟩⟩ := HV.out
    have o1 := (k7.set_ty (p := ⟨b_zy, 0, none⟩) (u := .bool ng) k5 (by decide)).set_ty (p := ⟨b_zy, 1, none⟩) (u := .slice A_y n_y c_y) k5.set (by decide)
    have o2 := (k8.set_ty (p := ⟨b_zy, 0, none⟩) (u := .bool ng) k5 (by decide)).set_ty (p := ⟨b_zy, 1, none⟩) (u := .slice A_y n_y c_y) k5.set (by decide)
    have o3 := (k9.set_ty (p := ⟨b_zy, 0, none⟩) (u := .bool ng) k5 (by decide)).set_ty (p := ⟨b_zy, 1, none⟩) (u := .slice A_y n_y c_y) k5.set (by decide)
    exact ⟨(k6.setCell (p := ⟨b_zy, 0, none⟩) hB_zy _).setCell (p := ⟨b_zy, 1, none⟩) hB_zy _, Cel.at ((k1.set (hxy _ _)).set (hxy _ _)), Cel.at ((k2.set (hxy _ _)).set (hxy _ _)), Cel.at (k3.put.set (by simp)), Cel.at ((k4.set (by simp)).put), o1.rd, o2.rd, o3.rd, o1.num l_g, o2.num l_x, o3.num l_y⟩
  clear cz1 cz2 cz3 cz4 cz5 cz6 HV hwu hc_zx hc_zy hA_zy hyx hxy o_ca o_cb o_g o_x o_y
  have HS := Lib.hid (ext_sum HE1.out)
  go_wp2_with fail
  have e_x0 := HU.out.2.1.1
  have g_x0 := At.growB HU.out.2.1
  have e_x1 := HU.out.2.2.1.1
  have g_x1 := At.growB HU.out.2.2.1
  have e_y0 := HU.out.2.2.2.1.1
  have g_y0 := At.growB HU.out.2.2.2.1
  have e_y1 := HU.out.2.2.2.2.1.1
  have g_y1 := At.growB HU.out.2.2.2.2.1
  have e_f0 := (((At.of (HZ.out.2 0 _ rfl)).below (below_drewN _ 1)).below HU.out.1).1
  have g_f0 := At.growB (((At.of (HZ.out.2 0 _ rfl)).below (below_drewN _ 1)).below HU.out.1)
  have e_f1 := (((At.of (HZ.out.2 1 _ rfl)).below (below_drewN _ 1)).below HU.out.1).1
  have g_f1 := At.growB (((At.of (HZ.out.2 1 _ rfl)).below (below_drewN _ 1)).below HU.out.1)
  refine wp_region_fltR (KB (wu).heap.size) (KB.refl _) (KB.trans _) (KB.of_grow _) [(0, 0), (0, 1), (0, 2), (0, 5), (0, 6), (0, 7), (2, 11), (1, 3), (1, 4), (1, 8), (1, 9), (1, 10), (4, 11), (3, 12)] (by kernel_rfl) (by kernel_rfl) ?_
  repeat (refine flt_pas (by rfl) (fun K hK => ?_); go_simp; refine hK _ _ (fun w' hw' => (by first | (go_simp; done) | (go_simp; intro hh; cases hh))) ?_; clear hK K)
  refine flt_alloc ((World.drew wu).heap.size) 30 #[.bool false, .slice none 0 0] (by rfl) rfl (fun w1 => (by go_simp)) (Nat.le_refl _) ?_
  refine flt_call (by rfl) (fun w9 hw9 K hK => ?_); go_simp; refine hK _ _ ?_; clear hK K
  refine (I5_any (s := false) (((((HNA.out.below HZ.out.1).below (below_drewN _ 1)).below HU.out.1).below (below_drewN _ 1)).below hw9.below) (by omega)).mono ?_
  rintro e w10 ⟨A_i1, n_i1, c_i1, s_i1, rfl, hs_i1, o_i1, hb10, l_i1⟩
  refine ⟨_, rfl, Grow.of_below hb10, ?_⟩
  (refine flt_norm (fun K hK => ?_); go_simp; refine hK _ ?_; clear hK K)
  refine flt_call (by rfl) (fun w11 hw11 K hK => ?_); go_simp; refine hK _ _ ?_; clear hK K
  refine (mul5_any ((((HU.out.2.2.2.2.2.2.2.2.2.1.below (below_drewN _ 1)).below hw9.below).below hb10).below hw11.below) ((o_i1.num l_i1).below hw11.below) rfl (sg_of hs_i1.out) (by omega) (by omega)).mono ?_
  rintro e w12 ⟨A_m1, n_m1, c_m1, s_m1, rfl, hs_m1, o_m1, hb12, l_m1⟩
  refine ⟨_, rfl, Grow.of_below hb12, ?_⟩
  (refine flt_norm (fun K hK => ?_); go_simp; refine hK _ ?_; clear hK K)
  refine flt_call (by rfl) (fun w13 hw13 K hK => ?_); go_simp; refine hK _ _ ?_; clear hK K
  refine (I5_any (s := false) (((((((((HNB.out.below HZ.out.1).below (below_drewN _ 1)).below HU.out.1).below (below_drewN _ 1)).below hw9.below).below hb10).below hw11.below).below hb12).below hw13.below) (by omega)).mono ?_
  rintro e w14 ⟨A_i2, n_i2, c_i2, s_i2, rfl, hs_i2, o_i2, hb14, l_i2⟩
  refine ⟨_, rfl, Grow.of_below hb14, ?_⟩
  (refine flt_norm (fun K hK => ?_); go_simp; refine hK _ ?_; clear hK K)
  refine flt_call (by rfl) (fun w15 hw15 K hK => ?_); go_simp; refine hK _ _ ?_; clear hK K
  refine (mul5_any ((((((((HU.out.2.2.2.2.2.2.2.2.2.2.below (below_drewN _ 1)).below hw9.below).below hb10).below hw11.below).below hb12).below hw13.below).below hb14).below hw15.below) ((o_i2.num l_i2).below hw15.below) rfl (sg_of hs_i2.out) (by omega) (by omega)).mono ?_
  rintro e w16 ⟨A_m2, n_m2, c_m2, s_m2, rfl, hs_m2, o_m2, hb16, l_m2⟩
  refine ⟨_, rfl, Grow.of_below hb16, ?_⟩
  (refine flt_norm (fun K hK => ?_); go_simp; refine hK _ ?_; clear hK K)
  refine flt_call (by rfl) (fun w17 hw17 K hK => ?_); go_simp; refine hK _ _ ?_; clear hK K
  refine (add5_any ((((((o_m1.num l_m1).below hw13.below).below hb14).below hw15.below).below hb16).below hw17.below) ((o_m2.num l_m2).below hw17.below) (sg_of hs_m1.out) (sg_of hs_m2.out) (by omega) (by omega) (by omega) (by omega)).mono ?_
  rintro e w18 ⟨A_sm, n_sm, c_sm, s_sm, rfl, hs_sm, o_sm, hb18, l_sm⟩
  refine ⟨_, rfl, Grow.of_below hb18, ?_⟩
  (refine flt_norm (fun K hK => ?_); go_simp; refine hK _ ?_; clear hK K)
  refine flt_land (by rfl) (fun v_zs w19 hw19 hF => ?_)
  obtain ⟨b_zs, rfl, hB_zs, hc_zs⟩ := hF
  (refine flt_norm (fun K hK => ?_); go_simp; refine hK _ ?_; clear hK K)
  obtain ⟨cz1, cz2, cz3⟩ := cel_of hc_zs (j := 0) rfl
  obtain ⟨cz4, cz5, cz6⟩ := cel_of hc_zs (j := 1) rfl
  (refine flt_actX (by rfl) (fun K hK => ?_); go_simp)
  refine hK _ _ ⟨KB.set2 hB_zs, ?_⟩
  clear hK K
  repeat (refine flt_pas (by rfl) (fun K hK => ?_); go_simp; refine hK _ _ (fun w' hw' => (by first | (go_simp; done) | (go_simp; intro hh; cases hh))) ?_; clear hK K)
  refine flt_nil ?_
  clear g_x0 e_x0 g_x1 e_x1 g_y0 e_y0 g_y1 e_y1 g_f0 e_f0 g_f1 e_f1
  have HKX : Hid (Below ((World.drew wu)).heap.size ((World.drew wu)) (w19) ∧ ∃ B, Own .u64 54 B (w19) A_sm n_sm c_sm (dg W (sg false vx * sg false a + sg ng vy * sg false b).natAbs)) := ⟨(bt (bt (bt (bt (bt (bt (bt (bt (bt (bt hw9.below hb10) hw11.below) hb12) hw13.below) hb14) hw15.below) hb16) hw17.below) hb18) hw19.below), _, (o_sm.below hw19.below)⟩
  obtain ⟨wu2, hwu2⟩ : ∃ wu2 : World, wu2 = ((w19).setCell ⟨b_zs, 0, none⟩ (.bool s_sm)).setCell ⟨b_zs, 1, none⟩ (.slice A_sm n_sm c_sm) := ⟨_, rfl⟩
  rw [← hwu2]
  have HU2 : Hid (Below ((World.drew wu)).heap.size ((World.drew wu)) wu2 ∧ At wu2 ⟨b_zs, 0, none⟩ (.bool s_sm) ∧ At wu2 ⟨b_zs, 1, none⟩ (.slice A_sm n_sm c_sm) ∧ Rd .u64 wu2 A_sm n_sm c_sm (dg W (sg false vx * sg false a + sg ng vy * sg false b).natAbs)) := by
    rw [hwu2]
    have hb : BoxT 30 b_zs _ := ⟨_, _, hc_zs⟩
    obtain ⟨k1, B, k2⟩ := HKX.out
    exact ⟨(k1.setCell (p := ⟨b_zs, 0, none⟩) hB_zs _).setCell (p := ⟨b_zs, 1, none⟩) hB_zs _, Cel.at ((Cel.put ⟨cz1, cz2, cz3⟩).set (by simp)), Cel.at ((Cel.set ⟨cz4, cz5, cz6⟩ (by simp)).put), ((k2.set_ty (p := ⟨b_zs, 0, none⟩) hb (by decide)).set_ty (p := ⟨b_zs, 1, none⟩) hb.set (by decide)).rd⟩
  clear cz1 cz2 cz3 cz4 cz5 cz6 hwu2 hc_zs HKX o_i1 o_m1 o_i2 o_m2 o_sm
  go_wp2_with fail
  go_cut [76] from 47 to 76 (fun c wx => c = .bool false ∧ Below (wu2).heap.size (wu2) wx)
  case first =>
    rcases ng with _ | _
    · skip
      go_wp2_with fail
      have e_s0 := HU2.out.2.1.1
      have g_s0 := At.grow HU2.out.2.1
      have e_s1 := HU2.out.2.2.1.1
      have g_s1 := At.grow HU2.out.2.2.1
      have e_x0 := ((HU.out.2.1.below (below_drewN _ 1)).below HU2.out.1).1
      have g_x0 := At.grow ((HU.out.2.1.below (below_drewN _ 1)).below HU2.out.1)
      have e_x1 := ((HU.out.2.2.1.below (below_drewN _ 1)).below HU2.out.1).1
      have g_x1 := At.grow ((HU.out.2.2.1.below (below_drewN _ 1)).below HU2.out.1)
      have e_y0 := ((HU.out.2.2.2.1.below (below_drewN _ 1)).below HU2.out.1).1
      have g_y0 := At.grow ((HU.out.2.2.2.1.below (below_drewN _ 1)).below HU2.out.1)
      have e_y1 := ((HU.out.2.2.2.2.1.below (below_drewN _ 1)).below HU2.out.1).1
      have g_y1 := At.grow ((HU.out.2.2.2.2.1.below (below_drewN _ 1)).below HU2.out.1)
      refine wp_region_grow none [(true, 0), (true, 1), (false, 2), (false, 3), (true, 4), (true, 5), (true, 6), (true, 7), (false, 8), (true, 9), (true, 10), (true, 11), (true, 12), (true, 13), (false, 14), (true, 15), (true, 16), (true, 17), (true, 18), (true, 19), (true, 20), (true, 21), (true, 22), (true, 23), (true, 24), (true, 25), (true, 26), (false, 27), (true, 28), (true, 29)] (by kernel_rfl) (by kernel_rfl) ?_
      repeat (refine ord_pas (by rfl) (fun K hK => ?_); go_simp; refine hK _ _ (fun w' hw' => (by first | (go_simp; done) | (go_simp; intro hh; cases hh))) ?_; clear hK K)
      (refine ord_call (by rfl) (fun K hK => ?_); go_simp; refine hK _ _ ?_; clear hK K)
      refine (I5_any (s := false) (((HU.out.2.2.2.2.2.2.2.2.1.below (below_drewN _ 1)).below HU2.out.1).below (Below.refl _ _).drew) (by omega)).mono ?_
      rintro e w20 ⟨A_ig, n_ig, c_ig, s_ig, rfl, hs_ig, o_ig, hb20, l_ig⟩
      refine ⟨_, rfl, Grow.of_below hb20, ?_⟩
      (refine ord_norm (fun K hK => ?_); go_simp; refine hK _ ?_; clear hK K)
      (refine ord_call (by rfl) (fun K hK => ?_); go_simp; refine hK _ _ ?_; clear hK K)
      refine (sameInt_yes ((HU2.out.2.2.2.below (Below.refl _ _).drew).below hb20) o_ig.rd (by rw [hs_sm.out, hs_ig.out, HS.out]) (by rw [HS.out]) (by omega)).mono ?_
      rintro e w21 ⟨rfl, hb21⟩
      refine ⟨_, rfl, Grow.of_below hb21, ?_⟩
      (refine ord_norm (fun K hK => ?_); go_simp; refine hK _ ?_; clear hK K)
      have em_x0 := (((((HU.out.2.1.below (below_drewN _ 1)).below HU2.out.1).below (Below.refl _ _).drew).below hb20).below hb21).1
      have gm_x0 := At.grow0 (((((HU.out.2.1.below (below_drewN _ 1)).below HU2.out.1).below (Below.refl _ _).drew).below hb20).below hb21)
      have em_x1 := (((((HU.out.2.2.1.below (below_drewN _ 1)).below HU2.out.1).below (Below.refl _ _).drew).below hb20).below hb21).1
      have gm_x1 := At.grow0 (((((HU.out.2.2.1.below (below_drewN _ 1)).below HU2.out.1).below (Below.refl _ _).drew).below hb20).below hb21)
      repeat (refine ord_pas (by rfl) (fun K hK => ?_); go_simp; refine hK _ _ (fun w' hw' => (by first | (go_simp; done) | (go_simp; intro hh; cases hh))) ?_; clear hK K)
      clear gm_x0 em_x0 gm_x1 em_x1
      (refine ord_call (by rfl) (fun K hK => ?_); go_simp; refine hK _ _ ?_; clear hK K)
      refine (inForm_yes (((((HU.out.2.2.2.2.2.2.1.below (below_drewN _ 1)).below HU2.out.1).below (Below.refl _ _).drew).below hb20).below hb21) (by omega)).mono ?_
      rintro e w22 ⟨rfl, hb22⟩
      refine ⟨_, rfl, Grow.of_below hb22, ?_⟩
      (refine ord_norm (fun K hK => ?_); go_simp; refine hK _ ?_; clear hK K)
      have em_y0 := ((((((HU.out.2.2.2.1.below (below_drewN _ 1)).below HU2.out.1).below (Below.refl _ _).drew).below hb20).below hb21).below hb22).1
      have gm_y0 := At.grow0 ((((((HU.out.2.2.2.1.below (below_drewN _ 1)).below HU2.out.1).below (Below.refl _ _).drew).below hb20).below hb21).below hb22)
      have em_y1 := ((((((HU.out.2.2.2.2.1.below (below_drewN _ 1)).below HU2.out.1).below (Below.refl _ _).drew).below hb20).below hb21).below hb22).1
      have gm_y1 := At.grow0 ((((((HU.out.2.2.2.2.1.below (below_drewN _ 1)).below HU2.out.1).below (Below.refl _ _).drew).below hb20).below hb21).below hb22)
      repeat (refine ord_pas (by rfl) (fun K hK => ?_); go_simp; refine hK _ _ (fun w' hw' => (by first | (go_simp; done) | (go_simp; intro hh; cases hh))) ?_; clear hK K)
      clear gm_y0 em_y0 gm_y1 em_y1
      (refine ord_call (by rfl) (fun K hK => ?_); go_simp; refine hK _ _ ?_; clear hK K)
      refine (inForm_yes ((((((HU.out.2.2.2.2.2.2.2.1.below (below_drewN _ 1)).below HU2.out.1).below (Below.refl _ _).drew).below hb20).below hb21).below hb22) (by omega)).mono ?_
      rintro e w23 ⟨rfl, hb23⟩
      refine ⟨_, rfl, Grow.of_below hb23, ?_⟩
      (refine ord_norm (fun K hK => ?_); go_simp; refine hK _ ?_; clear hK K)
      have em_x0 := (((((((HU.out.2.1.below (below_drewN _ 1)).below HU2.out.1).below (Below.refl _ _).drew).below hb20).below hb21).below hb22).below hb23).1
      have gm_x0 := At.grow0 (((((((HU.out.2.1.below (below_drewN _ 1)).below HU2.out.1).below (Below.refl _ _).drew).below hb20).below hb21).below hb22).below hb23)
      have em_x1 := (((((((HU.out.2.2.1.below (below_drewN _ 1)).below HU2.out.1).below (Below.refl _ _).drew).below hb20).below hb21).below hb22).below hb23).1
      have gm_x1 := At.grow0 (((((((HU.out.2.2.1.below (below_drewN _ 1)).below HU2.out.1).below (Below.refl _ _).drew).below hb20).below hb21).below hb22).below hb23)
      have em_y0 := (((((((HU.out.2.2.2.1.below (below_drewN _ 1)).below HU2.out.1).below (Below.refl _ _).drew).below hb20).below hb21).below hb22).below hb23).1
      have gm_y0 := At.grow0 (((((((HU.out.2.2.2.1.below (below_drewN _ 1)).below HU2.out.1).below (Below.refl _ _).drew).below hb20).below hb21).below hb22).below hb23)
      have em_y1 := (((((((HU.out.2.2.2.2.1.below (below_drewN _ 1)).below HU2.out.1).below (Below.refl _ _).drew).below hb20).below hb21).below hb22).below hb23).1
      have gm_y1 := At.grow0 (((((((HU.out.2.2.2.2.1.below (below_drewN _ 1)).below HU2.out.1).below (Below.refl _ _).drew).below hb20).below hb21).below hb22).below hb23)
      repeat (refine ord_pas (by rfl) (fun K hK => ?_); go_simp; refine hK _ _ (fun w' hw' => (by first | (go_simp; done) | (go_simp; intro hh; cases hh))) ?_; clear hK K)
      clear gm_x0 em_x0 gm_x1 em_x1 gm_y0 em_y0 gm_y1 em_y1
      (refine ord_act (by rfl) (fun K hK => ?_); go_simp)
      refine hK _ _ ⟨Grow.refl _ _, ?_⟩
      clear hK K
      (refine ord_norm (fun K hK => ?_); go_simp; refine hK _ ?_; clear hK K)
      repeat (refine ord_pas (by rfl) (fun K hK => ?_); go_simp; refine hK _ _ (fun w' hw' => (by first | (go_simp; done) | (go_simp; intro hh; cases hh))) ?_; clear hK K)
      refine ord_nil ?_
      clear g_s0 e_s0 g_s1 e_s1 g_x0 e_x0 g_x1 e_x1 g_y0 e_y0 g_y1 e_y1
      clear o_ig
      go_wp2_with fail
      go_meet
      case rel => exact ⟨rfl, (bt (bt (bt (bt (Below.refl _ _).drew hb20) hb21) hb22) hb23)⟩
    · have HY0 : Hid (0 < vy) := by
        show _ < _
        rcases HE1.out.1 with h | h
        · exact h.2.1
        · exact absurd h.1 (by simp)
      have CZy : Hid (∀ (w : World) (v : Value), Num w v vy 60 → Calls Try.prog 13 #[v] w (Keeps (.bool false) w)) := fun w v h => by
        have := zero5_any h (by omega)
        rwa [decide_eq_false (by have := HY0.out; omega)] at this
      go_wp2_with fail
      have e_s0 := HU2.out.2.1.1
      have g_s0 := At.grow HU2.out.2.1
      have e_s1 := HU2.out.2.2.1.1
      have g_s1 := At.grow HU2.out.2.2.1
      have e_x0 := ((HU.out.2.1.below (below_drewN _ 1)).below HU2.out.1).1
      have g_x0 := At.grow ((HU.out.2.1.below (below_drewN _ 1)).below HU2.out.1)
      have e_x1 := ((HU.out.2.2.1.below (below_drewN _ 1)).below HU2.out.1).1
      have g_x1 := At.grow ((HU.out.2.2.1.below (below_drewN _ 1)).below HU2.out.1)
      have e_y0 := ((HU.out.2.2.2.1.below (below_drewN _ 1)).below HU2.out.1).1
      have g_y0 := At.grow ((HU.out.2.2.2.1.below (below_drewN _ 1)).below HU2.out.1)
      have e_y1 := ((HU.out.2.2.2.2.1.below (below_drewN _ 1)).below HU2.out.1).1
      have g_y1 := At.grow ((HU.out.2.2.2.2.1.below (below_drewN _ 1)).below HU2.out.1)
      refine wp_region_grow none [(true, 0), (true, 1), (false, 2), (false, 3), (true, 4), (true, 5), (true, 6), (true, 7), (false, 8), (true, 9), (true, 10), (true, 11), (true, 12), (true, 13), (false, 14), (true, 15), (true, 16), (true, 17), (true, 18), (true, 19), (true, 20), (true, 21), (true, 22), (true, 23), (true, 24), (true, 25), (true, 26), (false, 27), (true, 28), (true, 29)] (by kernel_rfl) (by kernel_rfl) ?_
      repeat (refine ord_pas (by rfl) (fun K hK => ?_); go_simp; refine hK _ _ (fun w' hw' => (by first | (go_simp; done) | (go_simp; intro hh; cases hh))) ?_; clear hK K)
      (refine ord_call (by rfl) (fun K hK => ?_); go_simp; refine hK _ _ ?_; clear hK K)
      refine (I5_any (s := false) (((HU.out.2.2.2.2.2.2.2.2.1.below (below_drewN _ 1)).below HU2.out.1).below (Below.refl _ _).drew) (by omega)).mono ?_
      rintro e w24 ⟨A_ig, n_ig, c_ig, s_ig, rfl, hs_ig, o_ig, hb24, l_ig⟩
      refine ⟨_, rfl, Grow.of_below hb24, ?_⟩
      (refine ord_norm (fun K hK => ?_); go_simp; refine hK _ ?_; clear hK K)
      (refine ord_call (by rfl) (fun K hK => ?_); go_simp; refine hK _ _ ?_; clear hK K)
      refine (sameInt_yes ((HU2.out.2.2.2.below (Below.refl _ _).drew).below hb24) o_ig.rd (by rw [hs_sm.out, hs_ig.out, HS.out]) (by rw [HS.out]) (by omega)).mono ?_
      rintro e w25 ⟨rfl, hb25⟩
      refine ⟨_, rfl, Grow.of_below hb25, ?_⟩
      (refine ord_norm (fun K hK => ?_); go_simp; refine hK _ ?_; clear hK K)
      have em_x0 := (((((HU.out.2.1.below (below_drewN _ 1)).below HU2.out.1).below (Below.refl _ _).drew).below hb24).below hb25).1
      have gm_x0 := At.grow0 (((((HU.out.2.1.below (below_drewN _ 1)).below HU2.out.1).below (Below.refl _ _).drew).below hb24).below hb25)
      have em_x1 := (((((HU.out.2.2.1.below (below_drewN _ 1)).below HU2.out.1).below (Below.refl _ _).drew).below hb24).below hb25).1
      have gm_x1 := At.grow0 (((((HU.out.2.2.1.below (below_drewN _ 1)).below HU2.out.1).below (Below.refl _ _).drew).below hb24).below hb25)
      repeat (refine ord_pas (by rfl) (fun K hK => ?_); go_simp; refine hK _ _ (fun w' hw' => (by first | (go_simp; done) | (go_simp; intro hh; cases hh))) ?_; clear hK K)
      clear gm_x0 em_x0 gm_x1 em_x1
      (refine ord_call (by rfl) (fun K hK => ?_); go_simp; refine hK _ _ ?_; clear hK K)
      refine (inForm_yes (((((HU.out.2.2.2.2.2.2.1.below (below_drewN _ 1)).below HU2.out.1).below (Below.refl _ _).drew).below hb24).below hb25) (by omega)).mono ?_
      rintro e w26 ⟨rfl, hb26⟩
      refine ⟨_, rfl, Grow.of_below hb26, ?_⟩
      (refine ord_norm (fun K hK => ?_); go_simp; refine hK _ ?_; clear hK K)
      have em_y0 := ((((((HU.out.2.2.2.1.below (below_drewN _ 1)).below HU2.out.1).below (Below.refl _ _).drew).below hb24).below hb25).below hb26).1
      have gm_y0 := At.grow0 ((((((HU.out.2.2.2.1.below (below_drewN _ 1)).below HU2.out.1).below (Below.refl _ _).drew).below hb24).below hb25).below hb26)
      have em_y1 := ((((((HU.out.2.2.2.2.1.below (below_drewN _ 1)).below HU2.out.1).below (Below.refl _ _).drew).below hb24).below hb25).below hb26).1
      have gm_y1 := At.grow0 ((((((HU.out.2.2.2.2.1.below (below_drewN _ 1)).below HU2.out.1).below (Below.refl _ _).drew).below hb24).below hb25).below hb26)
      repeat (refine ord_pas (by rfl) (fun K hK => ?_); go_simp; refine hK _ _ (fun w' hw' => (by first | (go_simp; done) | (go_simp; intro hh; cases hh))) ?_; clear hK K)
      clear gm_y0 em_y0 gm_y1 em_y1
      (refine ord_call (by rfl) (fun K hK => ?_); go_simp; refine hK _ _ ?_; clear hK K)
      refine (inForm_yes ((((((HU.out.2.2.2.2.2.2.2.1.below (below_drewN _ 1)).below HU2.out.1).below (Below.refl _ _).drew).below hb24).below hb25).below hb26) (by omega)).mono ?_
      rintro e w27 ⟨rfl, hb27⟩
      refine ⟨_, rfl, Grow.of_below hb27, ?_⟩
      (refine ord_norm (fun K hK => ?_); go_simp; refine hK _ ?_; clear hK K)
      have em_x0 := (((((((HU.out.2.1.below (below_drewN _ 1)).below HU2.out.1).below (Below.refl _ _).drew).below hb24).below hb25).below hb26).below hb27).1
      have gm_x0 := At.grow0 (((((((HU.out.2.1.below (below_drewN _ 1)).below HU2.out.1).below (Below.refl _ _).drew).below hb24).below hb25).below hb26).below hb27)
      have em_x1 := (((((((HU.out.2.2.1.below (below_drewN _ 1)).below HU2.out.1).below (Below.refl _ _).drew).below hb24).below hb25).below hb26).below hb27).1
      have gm_x1 := At.grow0 (((((((HU.out.2.2.1.below (below_drewN _ 1)).below HU2.out.1).below (Below.refl _ _).drew).below hb24).below hb25).below hb26).below hb27)
      have em_y0 := (((((((HU.out.2.2.2.1.below (below_drewN _ 1)).below HU2.out.1).below (Below.refl _ _).drew).below hb24).below hb25).below hb26).below hb27).1
      have gm_y0 := At.grow0 (((((((HU.out.2.2.2.1.below (below_drewN _ 1)).below HU2.out.1).below (Below.refl _ _).drew).below hb24).below hb25).below hb26).below hb27)
      have em_y1 := (((((((HU.out.2.2.2.2.1.below (below_drewN _ 1)).below HU2.out.1).below (Below.refl _ _).drew).below hb24).below hb25).below hb26).below hb27).1
      have gm_y1 := At.grow0 (((((((HU.out.2.2.2.2.1.below (below_drewN _ 1)).below HU2.out.1).below (Below.refl _ _).drew).below hb24).below hb25).below hb26).below hb27)
      repeat (refine ord_pas (by rfl) (fun K hK => ?_); go_simp; refine hK _ _ (fun w' hw' => (by first | (go_simp; done) | (go_simp; intro hh; cases hh))) ?_; clear hK K)
      clear gm_x0 em_x0 gm_x1 em_x1 gm_y0 em_y0 gm_y1 em_y1
      (refine ord_call (by rfl) (fun K hK => ?_); go_simp; refine hK _ _ ?_; clear hK K)
      refine (CZy.out _ _ (((((((HU.out.2.2.2.2.2.2.2.2.2.2.below (below_drewN _ 1)).below HU2.out.1).below (Below.refl _ _).drew).below hb24).below hb25).below hb26).below hb27)).mono ?_
      rintro e w28 ⟨rfl, hb28⟩
      refine ⟨_, rfl, Grow.of_below hb28, ?_⟩
      (refine ord_norm (fun K hK => ?_); go_simp; refine hK _ ?_; clear hK K)
      repeat (refine ord_pas (by rfl) (fun K hK => ?_); go_simp; refine hK _ _ (fun w' hw' => (by first | (go_simp; done) | (go_simp; intro hh; cases hh))) ?_; clear hK K)
      refine ord_nil ?_
      clear g_s0 e_s0 g_s1 e_s1 g_x0 e_x0 g_x1 e_x1 g_y0 e_y0 g_y1 e_y1
      clear o_ig
      go_wp2_with fail
      go_meet
      case rel => exact ⟨rfl, (bt (bt (bt (bt (bt (Below.refl _ _).drew hb24) hb25) hb26) hb27) hb28)⟩
  case rest =>
  revert wc
  intro w29 hc29
  obtain ⟨rfl, hb29⟩ := hc29
  go_wp2_with fail
  go_cut [91] from 77 to 91 (fun c wx => c = .bool false ∧ Below (w29).heap.size (w29) wx)
  case first =>
    rcases Nat.eq_zero_or_pos b with hb | hb
    · have CZb : Hid (∀ (w : World) (v : Value), Num w v b 30 → Calls Try.prog 13 #[v] w (Keeps (.bool true) w)) := fun w v h => by
        have := zero5_any h (by omega)
        rwa [decide_eq_true hb] at this
      clear hb
      go_wp2_with fail
      have e_f1 := ((((((At.of (HZ.out.2 1 _ rfl)).below (below_drewN _ 1)).below HU.out.1).below (below_drewN _ 1)).below HU2.out.1).below hb29).1
      have g_f1 := At.grow ((((((At.of (HZ.out.2 1 _ rfl)).below (below_drewN _ 1)).below HU.out.1).below (below_drewN _ 1)).below HU2.out.1).below hb29)
      have e_x0 := (((HU.out.2.1.below (below_drewN _ 1)).below HU2.out.1).below hb29).1
      have g_x0 := At.grow (((HU.out.2.1.below (below_drewN _ 1)).below HU2.out.1).below hb29)
      have e_x1 := (((HU.out.2.2.1.below (below_drewN _ 1)).below HU2.out.1).below hb29).1
      have g_x1 := At.grow (((HU.out.2.2.1.below (below_drewN _ 1)).below HU2.out.1).below hb29)
      refine wp_region_grow none [(true, 0), (true, 1), (false, 2), (true, 3), (true, 4), (true, 5), (true, 6), (true, 7), (true, 9), (true, 10), (false, 8), (false, 11), (false, 12), (true, 13), (true, 14)] (by kernel_rfl) (by kernel_rfl) ?_
      repeat (refine ord_pas (by rfl) (fun K hK => ?_); go_simp; refine hK _ _ (fun w' hw' => (by first | (go_simp; done) | (go_simp; intro hh; cases hh))) ?_; clear hK K)
      (refine ord_call (by rfl) (fun K hK => ?_); go_simp; refine hK _ _ ?_; clear hK K)
      refine (CZb.out _ _ (((((((HNB.out.below HZ.out.1).below (below_drewN _ 1)).below HU.out.1).below (below_drewN _ 1)).below HU2.out.1).below hb29).below (Below.refl _ _).drew)).mono ?_
      rintro e w30 ⟨rfl, hb30⟩
      refine ⟨_, rfl, Grow.of_below hb30, ?_⟩
      (refine ord_norm (fun K hK => ?_); go_simp; refine hK _ ?_; clear hK K)
      have em_f1 := ((((((((At.of (HZ.out.2 1 _ rfl)).below (below_drewN _ 1)).below HU.out.1).below (below_drewN _ 1)).below HU2.out.1).below hb29).below (Below.refl _ _).drew).below hb30).1
      have gm_f1 := At.grow0 ((((((((At.of (HZ.out.2 1 _ rfl)).below (below_drewN _ 1)).below HU.out.1).below (below_drewN _ 1)).below HU2.out.1).below hb29).below (Below.refl _ _).drew).below hb30)
      have em_x0 := (((((HU.out.2.1.below (below_drewN _ 1)).below HU2.out.1).below hb29).below (Below.refl _ _).drew).below hb30).1
      have gm_x0 := At.grow0 (((((HU.out.2.1.below (below_drewN _ 1)).below HU2.out.1).below hb29).below (Below.refl _ _).drew).below hb30)
      have em_x1 := (((((HU.out.2.2.1.below (below_drewN _ 1)).below HU2.out.1).below hb29).below (Below.refl _ _).drew).below hb30).1
      have gm_x1 := At.grow0 (((((HU.out.2.2.1.below (below_drewN _ 1)).below HU2.out.1).below hb29).below (Below.refl _ _).drew).below hb30)
      repeat (refine ord_pas (by rfl) (fun K hK => ?_); go_simp; refine hK _ _ (fun w' hw' => (by first | (go_simp; done) | (go_simp; intro hh; cases hh))) ?_; clear hK K)
      clear gm_f1 em_f1 gm_x0 em_x0 gm_x1 em_x1
      (refine ord_act (by rfl) (fun K hK => ?_); go_simp)
      refine hK _ _ ⟨Grow.refl _ _, ?_⟩
      clear hK K
      (refine ord_norm (fun K hK => ?_); go_simp; refine hK _ ?_; clear hK K)
      (refine ord_act (by rfl) (fun K hK => ?_); go_simp)
      refine hK _ _ ⟨Grow.refl _ _, ?_⟩
      clear hK K
      (refine ord_norm (fun K hK => ?_); go_simp; refine hK _ ?_; clear hK K)
      (refine ord_act (by rfl) (fun K hK => ?_); go_simp)
      refine hK _ _ ⟨Grow.refl _ _, ?_⟩
      clear hK K
      (refine ord_norm (fun K hK => ?_); go_simp; refine hK _ ?_; clear hK K)
      repeat (refine ord_pas (by rfl) (fun K hK => ?_); go_simp; refine hK _ _ (fun w' hw' => (by first | (go_simp; done) | (go_simp; intro hh; cases hh))) ?_; clear hK K)
      refine ord_nil ?_
      clear g_f1 e_f1 g_x0 e_x0 g_x1 e_x1
      go_wp2_with fail
      go_meet
      case rel => exact ⟨rfl, (bt (Below.refl _ _).drew hb30)⟩
    · have CZb : Hid (∀ (w : World) (v : Value), Num w v b 30 → Calls Try.prog 13 #[v] w (Keeps (.bool false) w)) := fun w v h => by
        have := zero5_any h (by omega)
        rwa [decide_eq_false (by omega)] at this
      have HXL : Hid (vx * Nat.gcd a b < b) := by
        show _ < _
        have h1 := HE1.out.2.2 hb
        have h2 := (Nat.lt_div_iff_mul_lt' (Nat.gcd_dvd_right a b) vx).1 h1
        rwa [Nat.mul_comm] at h2
      obtain ⟨zc, hzc⟩ : ∃ zc, zc = cmpN (vx * Nat.gcd a b) b := ⟨_, rfl⟩
      have dzc : decide ((0 : Int) ≤ zc) = false := by rw [hzc, cmpN, if_pos HXL.out]; decide
      have CCb : Hid (∀ (w : World) (v u : Value), Num w v (vx * Nat.gcd a b) 120 → Num w u b 30 → Calls Try.prog 14 #[v, u] w (Keeps (.int .i64 zc) w)) := fun w v u h1 h2 => by rw [hzc]; exact cmp5_any h1 h2 (by omega) (by omega)
      clear hzc hb
      go_wp2_with fail
      have e_f1 := ((((((At.of (HZ.out.2 1 _ rfl)).below (below_drewN _ 1)).below HU.out.1).below (below_drewN _ 1)).below HU2.out.1).below hb29).1
      have g_f1 := At.grow ((((((At.of (HZ.out.2 1 _ rfl)).below (below_drewN _ 1)).below HU.out.1).below (below_drewN _ 1)).below HU2.out.1).below hb29)
      have e_x0 := (((HU.out.2.1.below (below_drewN _ 1)).below HU2.out.1).below hb29).1
      have g_x0 := At.grow (((HU.out.2.1.below (below_drewN _ 1)).below HU2.out.1).below hb29)
      have e_x1 := (((HU.out.2.2.1.below (below_drewN _ 1)).below HU2.out.1).below hb29).1
      have g_x1 := At.grow (((HU.out.2.2.1.below (below_drewN _ 1)).below HU2.out.1).below hb29)
      refine wp_region_grow none [(true, 0), (true, 1), (false, 2), (true, 3), (true, 4), (true, 5), (true, 6), (true, 7), (true, 9), (true, 10), (false, 8), (false, 11), (false, 12), (true, 13), (true, 14)] (by kernel_rfl) (by kernel_rfl) ?_
      repeat (refine ord_pas (by rfl) (fun K hK => ?_); go_simp; refine hK _ _ (fun w' hw' => (by first | (go_simp; done) | (go_simp; intro hh; cases hh))) ?_; clear hK K)
      (refine ord_call (by rfl) (fun K hK => ?_); go_simp; refine hK _ _ ?_; clear hK K)
      refine (CZb.out _ _ (((((((HNB.out.below HZ.out.1).below (below_drewN _ 1)).below HU.out.1).below (below_drewN _ 1)).below HU2.out.1).below hb29).below (Below.refl _ _).drew)).mono ?_
      rintro e w31 ⟨rfl, hb31⟩
      refine ⟨_, rfl, Grow.of_below hb31, ?_⟩
      (refine ord_norm (fun K hK => ?_); go_simp; refine hK _ ?_; clear hK K)
      have em_f1 := ((((((((At.of (HZ.out.2 1 _ rfl)).below (below_drewN _ 1)).below HU.out.1).below (below_drewN _ 1)).below HU2.out.1).below hb29).below (Below.refl _ _).drew).below hb31).1
      have gm_f1 := At.grow0 ((((((((At.of (HZ.out.2 1 _ rfl)).below (below_drewN _ 1)).below HU.out.1).below (below_drewN _ 1)).below HU2.out.1).below hb29).below (Below.refl _ _).drew).below hb31)
      have em_x0 := (((((HU.out.2.1.below (below_drewN _ 1)).below HU2.out.1).below hb29).below (Below.refl _ _).drew).below hb31).1
      have gm_x0 := At.grow0 (((((HU.out.2.1.below (below_drewN _ 1)).below HU2.out.1).below hb29).below (Below.refl _ _).drew).below hb31)
      have em_x1 := (((((HU.out.2.2.1.below (below_drewN _ 1)).below HU2.out.1).below hb29).below (Below.refl _ _).drew).below hb31).1
      have gm_x1 := At.grow0 (((((HU.out.2.2.1.below (below_drewN _ 1)).below HU2.out.1).below hb29).below (Below.refl _ _).drew).below hb31)
      repeat (refine ord_pas (by rfl) (fun K hK => ?_); go_simp; refine hK _ _ (fun w' hw' => (by first | (go_simp; done) | (go_simp; intro hh; cases hh))) ?_; clear hK K)
      clear gm_f1 em_f1 gm_x0 em_x0 gm_x1 em_x1
      (refine ord_call (by rfl) (fun K hK => ?_); go_simp; refine hK _ _ ?_; clear hK K)
      refine (times5_any (((((HU.out.2.2.2.2.2.2.2.2.2.1.below (below_drewN _ 1)).below HU2.out.1).below hb29).below (Below.refl _ _).drew).below hb31) (((((HU.out.2.2.2.2.2.2.2.2.1.below (below_drewN _ 1)).below HU2.out.1).below hb29).below (Below.refl _ _).drew).below hb31) (by omega) (by omega)).mono ?_
      rintro e w32 ⟨A_tg, n_tg, c_tg, rfl, o_tg, hb32, l_tg⟩
      refine ⟨_, rfl, Grow.of_below hb32, ?_⟩
      (refine ord_norm (fun K hK => ?_); go_simp; refine hK _ ?_; clear hK K)
      have em_f1 := (((((((((At.of (HZ.out.2 1 _ rfl)).below (below_drewN _ 1)).below HU.out.1).below (below_drewN _ 1)).below HU2.out.1).below hb29).below (Below.refl _ _).drew).below hb31).below hb32).1
      have gm_f1 := At.grow0 (((((((((At.of (HZ.out.2 1 _ rfl)).below (below_drewN _ 1)).below HU.out.1).below (below_drewN _ 1)).below HU2.out.1).below hb29).below (Below.refl _ _).drew).below hb31).below hb32)
      repeat (refine ord_pas (by rfl) (fun K hK => ?_); go_simp; refine hK _ _ (fun w' hw' => (by first | (go_simp; done) | (go_simp; intro hh; cases hh))) ?_; clear hK K)
      clear gm_f1 em_f1
      (refine ord_call (by rfl) (fun K hK => ?_); go_simp; refine hK _ _ ?_; clear hK K)
      refine (norm5_any (((((((((HNB.out.below HZ.out.1).below (below_drewN _ 1)).below HU.out.1).below (below_drewN _ 1)).below HU2.out.1).below hb29).below (Below.refl _ _).drew).below hb31).below hb32) (by omega)).mono ?_
      rintro e w33 ⟨A_nb9, n_nb9, c_nb9, rfl, o_nb9, hb33, l_nb9⟩
      refine ⟨_, rfl, Grow.of_below hb33, ?_⟩
      (refine ord_norm (fun K hK => ?_); go_simp; refine hK _ ?_; clear hK K)
      (refine ord_call (by rfl) (fun K hK => ?_); go_simp; refine hK _ _ ?_; clear hK K)
      refine (CCb.out _ _ _ (((o_tg.num l_tg).below hb33).mono (by omega)) (o_nb9.num l_nb9)).mono ?_
      rintro e w34 ⟨rfl, hb34⟩
      refine ⟨_, rfl, Grow.of_below hb34, ?_⟩
      (refine ord_norm (fun K hK => ?_); go_simp; refine hK _ ?_; clear hK K)
      repeat (refine ord_pas (by rfl) (fun K hK => ?_); go_simp; refine hK _ _ (fun w' hw' => (by first | (go_simp; done) | (go_simp; intro hh; cases hh))) ?_; clear hK K)
      refine ord_nil ?_
      clear g_f1 e_f1 g_x0 e_x0 g_x1 e_x1
      clear o_tg o_nb9
      go_wp2_with fail
      go_meet
      case rel => exact ⟨rfl, (bt (bt (bt (bt (Below.refl _ _).drew hb31) hb32) hb33) hb34)⟩
  case rest =>
  revert wc
  intro w35 hc35
  obtain ⟨rfl, hb35⟩ := hc35
  go_wp2_with fail
  have e_f0 := (((((((At.of (HZ.out.2 0 _ rfl)).below (below_drewN _ 1)).below HU.out.1).below (below_drewN _ 1)).below HU2.out.1).below hb29).below hb35).1
  have g_f0 := At.grow (((((((At.of (HZ.out.2 0 _ rfl)).below (below_drewN _ 1)).below HU.out.1).below (below_drewN _ 1)).below HU2.out.1).below hb29).below hb35)
  have e_f1 := (((((((At.of (HZ.out.2 1 _ rfl)).below (below_drewN _ 1)).below HU.out.1).below (below_drewN _ 1)).below HU2.out.1).below hb29).below hb35).1
  have g_f1 := At.grow (((((((At.of (HZ.out.2 1 _ rfl)).below (below_drewN _ 1)).below HU.out.1).below (below_drewN _ 1)).below HU2.out.1).below hb29).below hb35)
  refine wp_region_grow none [(true, 0), (true, 1), (true, 3), (true, 4), (false, 2), (false, 5), (false, 6), (true, 7), (true, 8), (true, 9), (true, 10), (true, 11)] (by kernel_rfl) (by kernel_rfl) ?_
  repeat (refine ord_pas (by rfl) (fun K hK => ?_); go_simp; refine hK _ _ (fun w' hw' => (by first | (go_simp; done) | (go_simp; intro hh; cases hh))) ?_; clear hK K)
  (refine ord_call (by rfl) (fun K hK => ?_); go_simp; refine hK _ _ ?_; clear hK K)
  refine (copied05_any ((((((((HNA.out.below HZ.out.1).below (below_drewN _ 1)).below HU.out.1).below (below_drewN _ 1)).below HU2.out.1).below hb29).below hb35).below (Below.refl _ _).drew) (by omega)).mono ?_
  rintro e w36 ⟨A_cc, n_cc, c_cc, xs_cc, rfl, o_cc, a_cc, v_cc, hb36, l_cc⟩
  have V_cc := Lib.hid v_cc
  clear v_cc
  refine ⟨_, rfl, Grow.of_below hb36, ?_⟩
  (refine ord_norm (fun K hK => ?_); go_simp; refine hK _ ?_; clear hK K)
  (refine ord_call (by rfl) (fun K hK => ?_); go_simp; refine hK _ _ ?_; clear hK K)
  refine (copied05_any (((((((((HNB.out.below HZ.out.1).below (below_drewN _ 1)).below HU.out.1).below (below_drewN _ 1)).below HU2.out.1).below hb29).below hb35).below (Below.refl _ _).drew).below hb36) (by omega)).mono ?_
  rintro e w37 ⟨A_cd, n_cd, c_cd, xs_cd, rfl, o_cd, a_cd, v_cd, hb37, l_cd⟩
  have V_cd := Lib.hid v_cd
  clear v_cd
  refine ⟨_, rfl, Grow.of_below hb37, ?_⟩
  (refine ord_norm (fun K hK => ?_); go_simp; refine hK _ ?_; clear hK K)
  (refine ord_call (by rfl) (fun K hK => ?_); go_simp; refine hK _ _ ?_; clear hK K)
  refine (HGI.out _ _ _ ((o_cc.numv a_cc V_cc.out l_cc).below hb37) (o_cd.numv a_cd V_cd.out l_cd)).mono ?_
  rintro e w38 ⟨A_n1, n_n1, c_n1, rfl, hb38, l_n1, o_n1⟩
  refine ⟨_, rfl, Grow.of_below hb38, ?_⟩
  (refine ord_norm (fun K hK => ?_); go_simp; refine hK _ ?_; clear hK K)
  repeat (refine ord_pas (by rfl) (fun K hK => ?_); go_simp; refine hK _ _ (fun w' hw' => (by first | (go_simp; done) | (go_simp; intro hh; cases hh))) ?_; clear hK K)
  refine ord_nil ?_
  clear g_f0 e_f0 g_f1 e_f1
  clear o_cc o_cd
  go_upto_if 103 with fail
  go_cut [] from 104 to 131 (fun wx => Below (w38).heap.size (w38) wx)
  case first =>
    rcases HGC.out with her | ⟨her, xv, hxv, hcv, hxs⟩
    · have q5 : (eri == 0) = false := by rw [beq_eq_false_iff_ne]; exact her
      have q6 : decide (eri = 0) = false := decide_eq_false her
      clear her
      go_wp2_with fail
      go_meet
      case rel => exact (Below.refl _ _)
    · subst her
      subst hxs
      have HB0 : Hid (0 < b) := by show _ < _; omega
      have HM1 : Hid (dg W (xv * a % b) = dg W (1 % b)) := by
        show _ = _
        rw [mod_of_sub (a := xv * a) (b := 1) (m := b) (by
          obtain ⟨kk, hkk⟩ := hcv
          refine ⟨-kk, ?_⟩
          rw [Int.natCast_mul, Int.mul_neg]; omega)]
      obtain ⟨zd, hzd⟩ : ∃ zd, zd = cmpN xv b := ⟨_, rfl⟩
      have dzd : decide ((0 : Int) ≤ zd) = false := by rw [hzd, cmpN, if_pos hxv]; decide
      have CCd : Hid (∀ (w : World) (v u : Value), Num w v xv 30 → Num w u b 30 → Calls Try.prog 14 #[v, u] w (Keeps (.int .i64 zd) w)) := fun w v u h1 h2 => by rw [hzd]; exact cmp5_any h1 h2 (by omega) (by omega)
      clear hzd hxv hcv
      go_wp2_with fail
      have e_f0 := (((((((((((At.of (HZ.out.2 0 _ rfl)).below (below_drewN _ 1)).below HU.out.1).below (below_drewN _ 1)).below HU2.out.1).below hb29).below hb35).below (Below.refl _ _).drew).below hb36).below hb37).below hb38).1
      have g_f0 := At.grow (((((((((((At.of (HZ.out.2 0 _ rfl)).below (below_drewN _ 1)).below HU.out.1).below (below_drewN _ 1)).below HU2.out.1).below hb29).below hb35).below (Below.refl _ _).drew).below hb36).below hb37).below hb38)
      have e_f1 := (((((((((((At.of (HZ.out.2 1 _ rfl)).below (below_drewN _ 1)).below HU.out.1).below (below_drewN _ 1)).below HU2.out.1).below hb29).below hb35).below (Below.refl _ _).drew).below hb36).below hb37).below hb38).1
      have g_f1 := At.grow (((((((((((At.of (HZ.out.2 1 _ rfl)).below (below_drewN _ 1)).below HU.out.1).below (below_drewN _ 1)).below HU2.out.1).below hb29).below hb35).below (Below.refl _ _).drew).below hb36).below hb37).below hb38)
      refine wp_region_grow none [(true, 0), (true, 1), (true, 2), (true, 4), (true, 5), (false, 3), (false, 6), (true, 7), (true, 8), (true, 9), (true, 10), (true, 11)] (by kernel_rfl) (by kernel_rfl) ?_
      repeat (refine ord_pas (by rfl) (fun K hK => ?_); go_simp; refine hK _ _ (fun w' hw' => (by first | (go_simp; done) | (go_simp; intro hh; cases hh))) ?_; clear hK K)
      (refine ord_call (by rfl) (fun K hK => ?_); go_simp; refine hK _ _ ?_; clear hK K)
      refine (times5_any ((rd_num o_n1 l_n1).below (Below.refl _ _).drew) ((((((((((((HNA.out.below HZ.out.1).below (below_drewN _ 1)).below HU.out.1).below (below_drewN _ 1)).below HU2.out.1).below hb29).below hb35).below (Below.refl _ _).drew).below hb36).below hb37).below hb38).below (Below.refl _ _).drew) (by omega) (by omega)).mono ?_
      rintro e w39 ⟨A_tn, n_tn, c_tn, rfl, o_tn, hb39, l_tn⟩
      refine ⟨_, rfl, Grow.of_below hb39, ?_⟩
      (refine ord_norm (fun K hK => ?_); go_simp; refine hK _ ?_; clear hK K)
      (refine ord_call (by rfl) (fun K hK => ?_); go_simp; refine hK _ _ ?_; clear hK K)
      refine (quo5_any (o_tn.num l_tn) (((((((((((((HNB.out.below HZ.out.1).below (below_drewN _ 1)).below HU.out.1).below (below_drewN _ 1)).below HU2.out.1).below hb29).below hb35).below (Below.refl _ _).drew).below hb36).below hb37).below hb38).below (Below.refl _ _).drew).below hb39) HB0.out (by omega) (by omega) (by omega) (by omega)).mono ?_
      rintro e w40 ⟨A_qn, n_qn, c_qn, A_rn, n_rn, c_rn, rfl, o_qn, o_rn, hb40, l_qn, l_rn⟩
      refine ⟨_, rfl, Grow.of_below hb40, ?_⟩
      (refine ord_norm (fun K hK => ?_); go_simp; refine hK _ ?_; clear hK K)
      repeat (refine ord_pas (by rfl) (fun K hK => ?_); go_simp; refine hK _ _ (fun w' hw' => (by first | (go_simp; done) | (go_simp; intro hh; cases hh))) ?_; clear hK K)
      refine ord_nil ?_
      clear g_f0 e_f0 g_f1 e_f1
      go_wp2_with fail
      have e_f1 := ((((((((((((((At.of (HZ.out.2 1 _ rfl)).below (below_drewN _ 1)).below HU.out.1).below (below_drewN _ 1)).below HU2.out.1).below hb29).below hb35).below (Below.refl _ _).drew).below hb36).below hb37).below hb38).below (Below.refl _ _).drew).below hb39).below hb40).1
      have g_f1 := At.grow ((((((((((((((At.of (HZ.out.2 1 _ rfl)).below (below_drewN _ 1)).below HU.out.1).below (below_drewN _ 1)).below HU2.out.1).below hb29).below hb35).below (Below.refl _ _).drew).below hb36).below hb37).below hb38).below (Below.refl _ _).drew).below hb39).below hb40)
      refine wp_region_grow none [(true, 1), (true, 2), (false, 0), (false, 3), (true, 4), (true, 5), (true, 6), (true, 7), (true, 8)] (by kernel_rfl) (by kernel_rfl) ?_
      repeat (refine ord_pas (by rfl) (fun K hK => ?_); go_simp; refine hK _ _ (fun w' hw' => (by first | (go_simp; done) | (go_simp; intro hh; cases hh))) ?_; clear hK K)
      (refine ord_call (by rfl) (fun K hK => ?_); go_simp; refine hK _ _ ?_; clear hK K)
      refine (word5_any (x := 1) (x' := 1) rfl (by omega)).mono ?_
      rintro e w41 ⟨A_on, n_on, c_on, rfl, o_on, hb41, l_on⟩
      refine ⟨_, rfl, Grow.of_below hb41, ?_⟩
      (refine ord_norm (fun K hK => ?_); go_simp; refine hK _ ?_; clear hK K)
      (refine ord_call (by rfl) (fun K hK => ?_); go_simp; refine hK _ _ ?_; clear hK K)
      refine (quo5_any (o_on.num l_on) ((((((((((((((((HNB.out.below HZ.out.1).below (below_drewN _ 1)).below HU.out.1).below (below_drewN _ 1)).below HU2.out.1).below hb29).below hb35).below (Below.refl _ _).drew).below hb36).below hb37).below hb38).below (Below.refl _ _).drew).below hb39).below hb40).below (Below.refl _ _).drew).below hb41) HB0.out (by omega) (by omega) (by omega) (by omega)).mono ?_
      rintro e w42 ⟨A_qo, n_qo, c_qo, A_ro, n_ro, c_ro, rfl, o_qo, o_ro, hb42, l_qo, l_ro⟩
      refine ⟨_, rfl, Grow.of_below hb42, ?_⟩
      (refine ord_norm (fun K hK => ?_); go_simp; refine hK _ ?_; clear hK K)
      repeat (refine ord_pas (by rfl) (fun K hK => ?_); go_simp; refine hK _ _ (fun w' hw' => (by first | (go_simp; done) | (go_simp; intro hh; cases hh))) ?_; clear hK K)
      refine ord_nil ?_
      clear g_f1 e_f1
      go_wp2_with fail
      refine (same5k_any (((o_rn.rd.below (Below.refl _ _).drew).below hb41).below hb42) o_ro.rd HM1.out (by omega)).mono ?_
      rintro e w43 ⟨rfl, hb43⟩
      have e1 := ((((((((((((((((((At.of (HZ.out.2 1 _ rfl)).below (below_drewN _ 1)).below HU.out.1).below (below_drewN _ 1)).below HU2.out.1).below hb29).below hb35).below (Below.refl _ _).drew).below hb36).below hb37).below hb38).below (Below.refl _ _).drew).below hb39).below hb40).below (Below.refl _ _).drew).below hb41).below hb42).below hb43).1
      go_wp2_with fail
      refine (CCd.out _ _ _ ((((((((rd_num o_n1 l_n1).below (Below.refl _ _).drew).below hb39).below hb40).below (Below.refl _ _).drew).below hb41).below hb42).below hb43) ((((((((((((((((((HNB.out.below HZ.out.1).below (below_drewN _ 1)).below HU.out.1).below (below_drewN _ 1)).below HU2.out.1).below hb29).below hb35).below (Below.refl _ _).drew).below hb36).below hb37).below hb38).below (Below.refl _ _).drew).below hb39).below hb40).below (Below.refl _ _).drew).below hb41).below hb42).below hb43)).mono ?_
      rintro e w44 ⟨rfl, hb44⟩
      clear e1 o_tn o_qn o_rn o_on o_qo o_ro
      go_wp2_with fail
      go_meet
      case rel => exact (bt (bt (bt (bt (bt (bt (bt (Below.refl _ _).drew hb39) hb40) (Below.refl _ _).drew) hb41) hb42) hb43) hb44)
  case rest =>
  revert wc
  intro w45 hc45
  have e5 := ((((((((((((At.of (HZ.out.2 5 _ rfl)).below (below_drewN _ 1)).below HU.out.1).below (below_drewN _ 1)).below HU2.out.1).below hb29).below hb35).below (Below.refl _ _).drew).below hb36).below hb37).below hb38).below hc45).1
  have e0 := ((((((((((((At.of (HZ.out.2 0 _ rfl)).below (below_drewN _ 1)).below HU.out.1).below (below_drewN _ 1)).below HU2.out.1).below hb29).below hb35).below (Below.refl _ _).drew).below hb36).below hb37).below hb38).below hc45).1
  go_wp2_with fail
  refine (copied05_any ((((((((((((HNA.out.below HZ.out.1).below (below_drewN _ 1)).below HU.out.1).below (below_drewN _ 1)).below HU2.out.1).below hb29).below hb35).below (Below.refl _ _).drew).below hb36).below hb37).below hb38).below hc45) (by omega)).mono ?_
  rintro e w46 ⟨A_cr, n_cr, c_cr, xs_cr, rfl, o_cr, a_cr, v_cr, hb46, l_cr⟩
  have V_cr := Lib.hid v_cr
  clear v_cr
  go_wp2_with fail
  refine (groot_any (N := kN) (o_cr.numv a_cr V_cr.out l_cr) rfl HK1.out.1 (by omega)).mono ?_
  rintro e wr ⟨A_s, n_s, c_s, rfl, o_s, hbr, l_s⟩
  clear e0 e5
  have HP := Lib.hid (nroot_spec HK1.out.1 a)
  obtain ⟨ex, hex⟩ : ∃ ex, ex = decide (nroot kN a ^ kN = a) := ⟨_, rfl⟩
  rw [← hex]
  have HEX := Lib.hid hex
  clear hex
  generalize nroot kN a = R at *
  go_wp2_with fail
  refine (pow5_any ((o_s).num l_s) (N := kN) rfl (by have := HK1.out.2; omega) (by have := HK1.out.2; omega) (by omega)).mono ?_
  rintro e w47 ⟨A_p, n_p, c_p, rfl, o_p, hb47, l_p⟩
  obtain ⟨zp, hzp⟩ : ∃ zp, zp = cmpN (R ^ kN) a := ⟨_, rfl⟩
  have dzp : decide ((0 : Int) < zp) = false := by rw [hzp, cmp_gt]; exact decide_eq_false (by have := HP.out.1; omega)
  have dze : (zp == 0) = ex := by rw [hzp, cmp_eq, HEX.out]
  have CCp : Hid (∀ (w : World) (v u : Value) (L : Nat), Num w v (R ^ kN) L → Num w u a 30 → L ≤ 1300 → Calls Try.prog 14 #[v, u] w (Keeps (.int .i64 zp) w)) := fun w v u L h1 h2 h3 => by rw [hzp]; exact cmp5_any h1 h2 (by omega) (by omega)
  obtain ⟨zq, hzq⟩ : ∃ zq, zq = cmpN ((R + 1) ^ kN) a := ⟨_, rfl⟩
  have dzq : decide (zq ≤ 0) = false := by rw [hzq, cmp_leq]; exact decide_eq_false (by have := HP.out.2; omega)
  have CCq : Hid (∀ (w : World) (v u : Value) (L : Nat), Num w v ((R + 1) ^ kN) L → Num w u a 30 → L ≤ 1300 → Calls Try.prog 14 #[v, u] w (Keeps (.int .i64 zq) w)) := fun w v u L h1 h2 h3 => by rw [hzq]; exact cmp5_any h1 h2 (by omega) (by omega)
  clear hzp hzq HEX
  go_wp2_with fail
  have e_f0 := (((((((((((((((At.of (HZ.out.2 0 _ rfl)).below (below_drewN _ 1)).below HU.out.1).below (below_drewN _ 1)).below HU2.out.1).below hb29).below hb35).below (Below.refl _ _).drew).below hb36).below hb37).below hb38).below hc45).below hb46).below hbr).below hb47).1
  have g_f0 := At.grow (((((((((((((((At.of (HZ.out.2 0 _ rfl)).below (below_drewN _ 1)).below HU.out.1).below (below_drewN _ 1)).below HU2.out.1).below hb29).below hb35).below (Below.refl _ _).drew).below hb36).below hb37).below hb38).below hc45).below hb46).below hbr).below hb47)
  refine wp_region_grow none [(true, 0), (true, 1), (true, 2), (true, 3), (true, 4), (true, 5), (false, 6), (true, 7), (true, 8), (true, 9), (true, 10), (true, 13), (true, 15), (true, 16), (false, 11), (false, 12), (false, 14), (false, 17), (true, 18), (true, 19), (true, 20), (true, 21), (true, 22), (true, 23), (true, 24), (false, 25), (true, 26), (true, 27), (true, 28)] (by kernel_rfl) (by kernel_rfl) ?_
  repeat (refine ord_pas (by rfl) (fun K hK => ?_); go_simp; refine hK _ _ (fun w' hw' => (by first | (go_simp; done) | (go_simp; intro hh; cases hh))) ?_; clear hK K)
  (refine ord_call (by rfl) (fun K hK => ?_); go_simp; refine hK _ _ ?_; clear hK K)
  refine (CCp.out _ _ _ _ ((o_p.num l_p).below (Below.refl _ _).drew) ((((((((((((((((HNA.out.below HZ.out.1).below (below_drewN _ 1)).below HU.out.1).below (below_drewN _ 1)).below HU2.out.1).below hb29).below hb35).below (Below.refl _ _).drew).below hb36).below hb37).below hb38).below hc45).below hb46).below hbr).below hb47).below (Below.refl _ _).drew) (by have := HK1.out.2; omega)).mono ?_
  rintro e w48 ⟨rfl, hb48⟩
  refine ⟨_, rfl, Grow.of_below hb48, ?_⟩
  (refine ord_norm (fun K hK => ?_); go_simp; refine hK _ ?_; clear hK K)
  have em_f0 := (((((((((((((((((At.of (HZ.out.2 0 _ rfl)).below (below_drewN _ 1)).below HU.out.1).below (below_drewN _ 1)).below HU2.out.1).below hb29).below hb35).below (Below.refl _ _).drew).below hb36).below hb37).below hb38).below hc45).below hb46).below hbr).below hb47).below (Below.refl _ _).drew).below hb48).1
  have gm_f0 := At.grow0 (((((((((((((((((At.of (HZ.out.2 0 _ rfl)).below (below_drewN _ 1)).below HU.out.1).below (below_drewN _ 1)).below HU2.out.1).below hb29).below hb35).below (Below.refl _ _).drew).below hb36).below hb37).below hb38).below hc45).below hb46).below hbr).below hb47).below (Below.refl _ _).drew).below hb48)
  repeat (refine ord_pas (by rfl) (fun K hK => ?_); go_simp; refine hK _ _ (fun w' hw' => (by first | (go_simp; done) | (go_simp; intro hh; cases hh))) ?_; clear hK K)
  clear gm_f0 em_f0
  (refine ord_call (by rfl) (fun K hK => ?_); go_simp; refine hK _ _ ?_; clear hK K)
  refine (word5_any (x := 1) (x' := 1) rfl (by omega)).mono ?_
  rintro e w49 ⟨A_on2, n_on2, c_on2, rfl, o_on2, hb49, l_on2⟩
  refine ⟨_, rfl, Grow.of_below hb49, ?_⟩
  (refine ord_norm (fun K hK => ?_); go_simp; refine hK _ ?_; clear hK K)
  (refine ord_call (by rfl) (fun K hK => ?_); go_simp; refine hK _ _ ?_; clear hK K)
  refine (plus5_any ((((((o_s).num l_s).below hb47).below (Below.refl _ _).drew).below hb48).below hb49) (o_on2.num l_on2) (by omega) (by omega)).mono ?_
  rintro e w50 ⟨A_sp, n_sp, c_sp, rfl, o_sp, hb50, l_sp⟩
  refine ⟨_, rfl, Grow.of_below hb50, ?_⟩
  (refine ord_norm (fun K hK => ?_); go_simp; refine hK _ ?_; clear hK K)
  (refine ord_call (by rfl) (fun K hK => ?_); go_simp; refine hK _ _ ?_; clear hK K)
  refine (pow5_any ((o_sp.num l_sp).mono (L' := 31) (by omega)) (N := kN) rfl (by have := HK1.out.2; omega) (by have := HK1.out.2; omega) (by omega)).mono ?_
  rintro e w51 ⟨A_pq, n_pq, c_pq, rfl, o_pq, hb51, l_pq⟩
  refine ⟨_, rfl, Grow.of_below hb51, ?_⟩
  (refine ord_norm (fun K hK => ?_); go_simp; refine hK _ ?_; clear hK K)
  (refine ord_call (by rfl) (fun K hK => ?_); go_simp; refine hK _ _ ?_; clear hK K)
  refine (CCq.out _ _ _ _ (o_pq.num l_pq) ((((((((((((((((((((HNA.out.below HZ.out.1).below (below_drewN _ 1)).below HU.out.1).below (below_drewN _ 1)).below HU2.out.1).below hb29).below hb35).below (Below.refl _ _).drew).below hb36).below hb37).below hb38).below hc45).below hb46).below hbr).below hb47).below (Below.refl _ _).drew).below hb48).below hb49).below hb50).below hb51) (by have := HK1.out.2; omega)).mono ?_
  rintro e w52 ⟨rfl, hb52⟩
  refine ⟨_, rfl, Grow.of_below hb52, ?_⟩
  (refine ord_norm (fun K hK => ?_); go_simp; refine hK _ ?_; clear hK K)
  have em_f0 := (((((((((((((((((((((At.of (HZ.out.2 0 _ rfl)).below (below_drewN _ 1)).below HU.out.1).below (below_drewN _ 1)).below HU2.out.1).below hb29).below hb35).below (Below.refl _ _).drew).below hb36).below hb37).below hb38).below hc45).below hb46).below hbr).below hb47).below (Below.refl _ _).drew).below hb48).below hb49).below hb50).below hb51).below hb52).1
  have gm_f0 := At.grow0 (((((((((((((((((((((At.of (HZ.out.2 0 _ rfl)).below (below_drewN _ 1)).below HU.out.1).below (below_drewN _ 1)).below HU2.out.1).below hb29).below hb35).below (Below.refl _ _).drew).below hb36).below hb37).below hb38).below hc45).below hb46).below hbr).below hb47).below (Below.refl _ _).drew).below hb48).below hb49).below hb50).below hb51).below hb52)
  repeat (refine ord_pas (by rfl) (fun K hK => ?_); go_simp; refine hK _ _ (fun w' hw' => (by first | (go_simp; done) | (go_simp; intro hh; cases hh))) ?_; clear hK K)
  clear gm_f0 em_f0
  (refine ord_call (by rfl) (fun K hK => ?_); go_simp; refine hK _ _ ?_; clear hK K)
  refine (CCp.out _ _ _ _ (((((((o_p.num l_p).below (Below.refl _ _).drew).below hb48).below hb49).below hb50).below hb51).below hb52) (((((((((((((((((((((HNA.out.below HZ.out.1).below (below_drewN _ 1)).below HU.out.1).below (below_drewN _ 1)).below HU2.out.1).below hb29).below hb35).below (Below.refl _ _).drew).below hb36).below hb37).below hb38).below hc45).below hb46).below hbr).below hb47).below (Below.refl _ _).drew).below hb48).below hb49).below hb50).below hb51).below hb52) (by have := HK1.out.2; omega)).mono ?_
  rintro e w53 ⟨rfl, hb53⟩
  refine ⟨_, rfl, Grow.of_below hb53, ?_⟩
  (refine ord_norm (fun K hK => ?_); go_simp; refine hK _ ?_; clear hK K)
  repeat (refine ord_pas (by rfl) (fun K hK => ?_); go_simp; refine hK _ _ (fun w' hw' => (by first | (go_simp; done) | (go_simp; intro hh; cases hh))) ?_; clear hK K)
  refine ord_nil ?_
  clear g_f0 e_f0
  clear o_on2 o_sp o_pq
  rcases Nat.eq_zero_or_pos a with ha0 | ha0
  · have CZa : Hid (∀ (w : World) (v : Value), Num w v a 30 → Calls Try.prog 13 #[v] w (Keeps (.bool true) w)) := fun w v h => by
      have := zero5_any h (by omega)
      rwa [decide_eq_true ha0] at this
    have HA0 := Lib.hid ha0
    clear ha0
    go_wp2_with fail
    have e_f0 := ((((((((((((((((((((((At.of (HZ.out.2 0 _ rfl)).below (below_drewN _ 1)).below HU.out.1).below (below_drewN _ 1)).below HU2.out.1).below hb29).below hb35).below (Below.refl _ _).drew).below hb36).below hb37).below hb38).below hc45).below hb46).below hbr).below hb47).below (Below.refl _ _).drew).below hb48).below hb49).below hb50).below hb51).below hb52).below hb53).1
    have g_f0 := At.grow ((((((((((((((((((((((At.of (HZ.out.2 0 _ rfl)).below (below_drewN _ 1)).below HU.out.1).below (below_drewN _ 1)).below HU2.out.1).below hb29).below hb35).below (Below.refl _ _).drew).below hb36).below hb37).below hb38).below hc45).below hb46).below hbr).below hb47).below (Below.refl _ _).drew).below hb48).below hb49).below hb50).below hb51).below hb52).below hb53)
    have e_f2 := ((((((((((((((((((((((At.of (HZ.out.2 2 _ rfl)).below (below_drewN _ 1)).below HU.out.1).below (below_drewN _ 1)).below HU2.out.1).below hb29).below hb35).below (Below.refl _ _).drew).below hb36).below hb37).below hb38).below hc45).below hb46).below hbr).below hb47).below (Below.refl _ _).drew).below hb48).below hb49).below hb50).below hb51).below hb52).below hb53).1
    have g_f2 := At.grow ((((((((((((((((((((((At.of (HZ.out.2 2 _ rfl)).below (below_drewN _ 1)).below HU.out.1).below (below_drewN _ 1)).below HU2.out.1).below hb29).below hb35).below (Below.refl _ _).drew).below hb36).below hb37).below hb38).below hc45).below hb46).below hbr).below hb47).below (Below.refl _ _).drew).below hb48).below hb49).below hb50).below hb51).below hb52).below hb53)
    refine wp_region_grow none [(true, 0), (true, 1), (true, 3), (true, 4), (false, 2), (false, 5), (false, 6), (true, 7), (true, 8), (true, 9), (true, 10), (true, 11), (true, 12), (true, 13)] (by kernel_rfl) (by kernel_rfl) ?_
    repeat (refine ord_pas (by rfl) (fun K hK => ?_); go_simp; refine hK _ _ (fun w' hw' => (by first | (go_simp; done) | (go_simp; intro hh; cases hh))) ?_; clear hK K)
    (refine ord_call (by rfl) (fun K hK => ?_); go_simp; refine hK _ _ ?_; clear hK K)
    refine (copied05_any (((((((((((((((((((((((HNA.out.below HZ.out.1).below (below_drewN _ 1)).below HU.out.1).below (below_drewN _ 1)).below HU2.out.1).below hb29).below hb35).below (Below.refl _ _).drew).below hb36).below hb37).below hb38).below hc45).below hb46).below hbr).below hb47).below (Below.refl _ _).drew).below hb48).below hb49).below hb50).below hb51).below hb52).below hb53).below (Below.refl _ _).drew) (by omega)).mono ?_
    rintro e w54 ⟨A_ce, n_ce, c_ce, xs_ce, rfl, o_ce, a_ce, v_ce, hb54, l_ce⟩
    have V_ce := Lib.hid v_ce
    clear v_ce
    refine ⟨_, rfl, Grow.of_below hb54, ?_⟩
    (refine ord_norm (fun K hK => ?_); go_simp; refine hK _ ?_; clear hK K)
    (refine ord_call (by rfl) (fun K hK => ?_); go_simp; refine hK _ _ ?_; clear hK K)
    refine (copied05_any ((((((((((((((((((((((((HNK.out.below HZ.out.1).below (below_drewN _ 1)).below HU.out.1).below (below_drewN _ 1)).below HU2.out.1).below hb29).below hb35).below (Below.refl _ _).drew).below hb36).below hb37).below hb38).below hc45).below hb46).below hbr).below hb47).below (Below.refl _ _).drew).below hb48).below hb49).below hb50).below hb51).below hb52).below hb53).below (Below.refl _ _).drew).below hb54) (by omega)).mono ?_
    rintro e w55 ⟨A_cf, n_cf, c_cf, xs_cf, rfl, o_cf, a_cf, v_cf, hb55, l_cf⟩
    have V_cf := Lib.hid v_cf
    clear v_cf
    refine ⟨_, rfl, Grow.of_below hb55, ?_⟩
    (refine ord_norm (fun K hK => ?_); go_simp; refine hK _ ?_; clear hK K)
    (refine ord_call (by rfl) (fun K hK => ?_); go_simp; refine hK _ _ ?_; clear hK K)
    refine (gcount_zero ((o_ce.numv a_ce V_ce.out l_ce).below hb55) (o_cf.numv a_cf V_cf.out l_cf) HA0.out (by omega)).mono ?_
    rintro e w56 ⟨rfl, hb56⟩
    refine ⟨_, rfl, Grow.of_below hb56, ?_⟩
    (refine ord_norm (fun K hK => ?_); go_simp; refine hK _ ?_; clear hK K)
    repeat (refine ord_pas (by rfl) (fun K hK => ?_); go_simp; refine hK _ _ (fun w' hw' => (by first | (go_simp; done) | (go_simp; intro hh; cases hh))) ?_; clear hK K)
    refine ord_nil ?_
    clear g_f0 e_f0 g_f2 e_f2
    clear o_ce o_cf
    go_wp2_with fail
    have e_f0 := ((((((((((((((((((((((((((At.of (HZ.out.2 0 _ rfl)).below (below_drewN _ 1)).below HU.out.1).below (below_drewN _ 1)).below HU2.out.1).below hb29).below hb35).below (Below.refl _ _).drew).below hb36).below hb37).below hb38).below hc45).below hb46).below hbr).below hb47).below (Below.refl _ _).drew).below hb48).below hb49).below hb50).below hb51).below hb52).below hb53).below (Below.refl _ _).drew).below hb54).below hb55).below hb56).1
    have g_f0 := At.grow ((((((((((((((((((((((((((At.of (HZ.out.2 0 _ rfl)).below (below_drewN _ 1)).below HU.out.1).below (below_drewN _ 1)).below HU2.out.1).below hb29).below hb35).below (Below.refl _ _).drew).below hb36).below hb37).below hb38).below hc45).below hb46).below hbr).below hb47).below (Below.refl _ _).drew).below hb48).below hb49).below hb50).below hb51).below hb52).below hb53).below (Below.refl _ _).drew).below hb54).below hb55).below hb56)
    have e_f2 := ((((((((((((((((((((((((((At.of (HZ.out.2 2 _ rfl)).below (below_drewN _ 1)).below HU.out.1).below (below_drewN _ 1)).below HU2.out.1).below hb29).below hb35).below (Below.refl _ _).drew).below hb36).below hb37).below hb38).below hc45).below hb46).below hbr).below hb47).below (Below.refl _ _).drew).below hb48).below hb49).below hb50).below hb51).below hb52).below hb53).below (Below.refl _ _).drew).below hb54).below hb55).below hb56).1
    have g_f2 := At.grow ((((((((((((((((((((((((((At.of (HZ.out.2 2 _ rfl)).below (below_drewN _ 1)).below HU.out.1).below (below_drewN _ 1)).below HU2.out.1).below hb29).below hb35).below (Below.refl _ _).drew).below hb36).below hb37).below hb38).below hc45).below hb46).below hbr).below hb47).below (Below.refl _ _).drew).below hb48).below hb49).below hb50).below hb51).below hb52).below hb53).below (Below.refl _ _).drew).below hb54).below hb55).below hb56)
    refine wp_region_grow none [(true, 0), (true, 1), (false, 2), (true, 3), (true, 4), (true, 5), (false, 6), (false, 7), (true, 8), (true, 9)] (by kernel_rfl) (by kernel_rfl) ?_
    repeat (refine ord_pas (by rfl) (fun K hK => ?_); go_simp; refine hK _ _ (fun w' hw' => (by first | (go_simp; done) | (go_simp; intro hh; cases hh))) ?_; clear hK K)
    (refine ord_call (by rfl) (fun K hK => ?_); go_simp; refine hK _ _ ?_; clear hK K)
    refine (CZa.out _ _ (((((((((((((((((((((((((((HNA.out.below HZ.out.1).below (below_drewN _ 1)).below HU.out.1).below (below_drewN _ 1)).below HU2.out.1).below hb29).below hb35).below (Below.refl _ _).drew).below hb36).below hb37).below hb38).below hc45).below hb46).below hbr).below hb47).below (Below.refl _ _).drew).below hb48).below hb49).below hb50).below hb51).below hb52).below hb53).below (Below.refl _ _).drew).below hb54).below hb55).below hb56).below (Below.refl _ _).drew)).mono ?_
    rintro e w57 ⟨rfl, hb57⟩
    refine ⟨_, rfl, Grow.of_below hb57, ?_⟩
    (refine ord_norm (fun K hK => ?_); go_simp; refine hK _ ?_; clear hK K)
    have em_f2 := ((((((((((((((((((((((((((((At.of (HZ.out.2 2 _ rfl)).below (below_drewN _ 1)).below HU.out.1).below (below_drewN _ 1)).below HU2.out.1).below hb29).below hb35).below (Below.refl _ _).drew).below hb36).below hb37).below hb38).below hc45).below hb46).below hbr).below hb47).below (Below.refl _ _).drew).below hb48).below hb49).below hb50).below hb51).below hb52).below hb53).below (Below.refl _ _).drew).below hb54).below hb55).below hb56).below (Below.refl _ _).drew).below hb57).1
    have gm_f2 := At.grow0 ((((((((((((((((((((((((((((At.of (HZ.out.2 2 _ rfl)).below (below_drewN _ 1)).below HU.out.1).below (below_drewN _ 1)).below HU2.out.1).below hb29).below hb35).below (Below.refl _ _).drew).below hb36).below hb37).below hb38).below hc45).below hb46).below hbr).below hb47).below (Below.refl _ _).drew).below hb48).below hb49).below hb50).below hb51).below hb52).below hb53).below (Below.refl _ _).drew).below hb54).below hb55).below hb56).below (Below.refl _ _).drew).below hb57)
    repeat (refine ord_pas (by rfl) (fun K hK => ?_); go_simp; refine hK _ _ (fun w' hw' => (by first | (go_simp; done) | (go_simp; intro hh; cases hh))) ?_; clear hK K)
    clear gm_f2 em_f2
    (refine ord_act (by rfl) (fun K hK => ?_); go_simp)
    refine hK _ _ ⟨Grow.refl _ _, ?_⟩
    clear hK K
    (refine ord_norm (fun K hK => ?_); go_simp; refine hK _ ?_; clear hK K)
    (refine ord_act (by rfl) (fun K hK => ?_); go_simp)
    refine hK _ _ ⟨Grow.refl _ _, ?_⟩
    clear hK K
    (refine ord_norm (fun K hK => ?_); go_simp; refine hK _ ?_; clear hK K)
    repeat (refine ord_pas (by rfl) (fun K hK => ?_); go_simp; refine hK _ _ (fun w' hw' => (by first | (go_simp; done) | (go_simp; intro hh; cases hh))) ?_; clear hK K)
    refine ord_nil ?_
    clear g_f0 e_f0 g_f2 e_f2
    have HEND := Lib.hid (bt (bt (bt (bt (bt (bt (bt (bt (bt (bt (bt (bt (bt (bt (bt (bt (bt (bt (bt (bt (bt (bt (bt (bt (bt (bt (bt HZ.out.1 (below_drewN _ 1)) HU.out.1) (below_drewN _ 1)) HU2.out.1) hb29) hb35) (Below.refl _ _).drew) hb36) hb37) hb38) hc45) hb46) hbr) hb47) (Below.refl _ _).drew) hb48) hb49) hb50) hb51) hb52) hb53) (Below.refl _ _).drew) hb54) hb55) hb56) (Below.refl _ _).drew) hb57)
    go_wp2
    go_ret
    exact ⟨by simp, HEND.out⟩
  · have CZa : Hid (∀ (w : World) (v : Value), Num w v a 30 → Calls Try.prog 13 #[v] w (Keeps (.bool false) w)) := fun w v h => by
      have := zero5_any h (by omega)
      rwa [decide_eq_false (by omega)] at this
    obtain ⟨zk, hzk⟩ : ∃ zk, zk = cmpN k 1 := ⟨_, rfl⟩
    have CCk : Hid (∀ (w : World) (v u : Value), Num w v k 30 → Num w u 1 1 → Calls Try.prog 14 #[v, u] w (Keeps (.int .i64 zk) w)) := fun w v u h1 h2 => by rw [hzk]; exact cmp5_any h1 h2 (by omega) (by omega)
    have HA0 := Lib.hid ha0
    clear ha0
    rcases Nat.lt_or_ge k 2 with hk2 | hk2
    · have dzk : decide (zk ≤ 0) = true := by rw [hzk, cmp_leq]; exact decide_eq_true (by omega)
      have HK2 := Lib.hid hk2
      clear hzk hk2
      go_wp2_with fail
      have e_f0 := ((((((((((((((((((((((At.of (HZ.out.2 0 _ rfl)).below (below_drewN _ 1)).below HU.out.1).below (below_drewN _ 1)).below HU2.out.1).below hb29).below hb35).below (Below.refl _ _).drew).below hb36).below hb37).below hb38).below hc45).below hb46).below hbr).below hb47).below (Below.refl _ _).drew).below hb48).below hb49).below hb50).below hb51).below hb52).below hb53).1
      have g_f0 := At.grow ((((((((((((((((((((((At.of (HZ.out.2 0 _ rfl)).below (below_drewN _ 1)).below HU.out.1).below (below_drewN _ 1)).below HU2.out.1).below hb29).below hb35).below (Below.refl _ _).drew).below hb36).below hb37).below hb38).below hc45).below hb46).below hbr).below hb47).below (Below.refl _ _).drew).below hb48).below hb49).below hb50).below hb51).below hb52).below hb53)
      have e_f2 := ((((((((((((((((((((((At.of (HZ.out.2 2 _ rfl)).below (below_drewN _ 1)).below HU.out.1).below (below_drewN _ 1)).below HU2.out.1).below hb29).below hb35).below (Below.refl _ _).drew).below hb36).below hb37).below hb38).below hc45).below hb46).below hbr).below hb47).below (Below.refl _ _).drew).below hb48).below hb49).below hb50).below hb51).below hb52).below hb53).1
      have g_f2 := At.grow ((((((((((((((((((((((At.of (HZ.out.2 2 _ rfl)).below (below_drewN _ 1)).below HU.out.1).below (below_drewN _ 1)).below HU2.out.1).below hb29).below hb35).below (Below.refl _ _).drew).below hb36).below hb37).below hb38).below hc45).below hb46).below hbr).below hb47).below (Below.refl _ _).drew).below hb48).below hb49).below hb50).below hb51).below hb52).below hb53)
      refine wp_region_grow none [(true, 0), (true, 1), (true, 3), (true, 4), (false, 2), (false, 5), (false, 6), (true, 7), (true, 8), (true, 9), (true, 10), (true, 11), (true, 12), (true, 13)] (by kernel_rfl) (by kernel_rfl) ?_
      repeat (refine ord_pas (by rfl) (fun K hK => ?_); go_simp; refine hK _ _ (fun w' hw' => (by first | (go_simp; done) | (go_simp; intro hh; cases hh))) ?_; clear hK K)
      (refine ord_call (by rfl) (fun K hK => ?_); go_simp; refine hK _ _ ?_; clear hK K)
      refine (copied05_any (((((((((((((((((((((((HNA.out.below HZ.out.1).below (below_drewN _ 1)).below HU.out.1).below (below_drewN _ 1)).below HU2.out.1).below hb29).below hb35).below (Below.refl _ _).drew).below hb36).below hb37).below hb38).below hc45).below hb46).below hbr).below hb47).below (Below.refl _ _).drew).below hb48).below hb49).below hb50).below hb51).below hb52).below hb53).below (Below.refl _ _).drew) (by omega)).mono ?_
      rintro e w58 ⟨A_ce, n_ce, c_ce, xs_ce, rfl, o_ce, a_ce, v_ce, hb58, l_ce⟩
      have V_ce := Lib.hid v_ce
      clear v_ce
      refine ⟨_, rfl, Grow.of_below hb58, ?_⟩
      (refine ord_norm (fun K hK => ?_); go_simp; refine hK _ ?_; clear hK K)
      (refine ord_call (by rfl) (fun K hK => ?_); go_simp; refine hK _ _ ?_; clear hK K)
      refine (copied05_any ((((((((((((((((((((((((HNK.out.below HZ.out.1).below (below_drewN _ 1)).below HU.out.1).below (below_drewN _ 1)).below HU2.out.1).below hb29).below hb35).below (Below.refl _ _).drew).below hb36).below hb37).below hb38).below hc45).below hb46).below hbr).below hb47).below (Below.refl _ _).drew).below hb48).below hb49).below hb50).below hb51).below hb52).below hb53).below (Below.refl _ _).drew).below hb58) (by omega)).mono ?_
      rintro e w59 ⟨A_cf, n_cf, c_cf, xs_cf, rfl, o_cf, a_cf, v_cf, hb59, l_cf⟩
      have V_cf := Lib.hid v_cf
      clear v_cf
      refine ⟨_, rfl, Grow.of_below hb59, ?_⟩
      (refine ord_norm (fun K hK => ?_); go_simp; refine hK _ ?_; clear hK K)
      (refine ord_call (by rfl) (fun K hK => ?_); go_simp; refine hK _ _ ?_; clear hK K)
      refine (gcount_arg ((o_ce.numv a_ce V_ce.out l_ce).below hb59) (o_cf.numv a_cf V_cf.out l_cf) HA0.out HK2.out (by omega) (by omega)).mono ?_
      rintro e w60 ⟨rfl, hb60⟩
      refine ⟨_, rfl, Grow.of_below hb60, ?_⟩
      (refine ord_norm (fun K hK => ?_); go_simp; refine hK _ ?_; clear hK K)
      repeat (refine ord_pas (by rfl) (fun K hK => ?_); go_simp; refine hK _ _ (fun w' hw' => (by first | (go_simp; done) | (go_simp; intro hh; cases hh))) ?_; clear hK K)
      refine ord_nil ?_
      clear g_f0 e_f0 g_f2 e_f2
      clear o_ce o_cf
      go_wp2_with fail
      have e_f0 := ((((((((((((((((((((((((((At.of (HZ.out.2 0 _ rfl)).below (below_drewN _ 1)).below HU.out.1).below (below_drewN _ 1)).below HU2.out.1).below hb29).below hb35).below (Below.refl _ _).drew).below hb36).below hb37).below hb38).below hc45).below hb46).below hbr).below hb47).below (Below.refl _ _).drew).below hb48).below hb49).below hb50).below hb51).below hb52).below hb53).below (Below.refl _ _).drew).below hb58).below hb59).below hb60).1
      have g_f0 := At.grow ((((((((((((((((((((((((((At.of (HZ.out.2 0 _ rfl)).below (below_drewN _ 1)).below HU.out.1).below (below_drewN _ 1)).below HU2.out.1).below hb29).below hb35).below (Below.refl _ _).drew).below hb36).below hb37).below hb38).below hc45).below hb46).below hbr).below hb47).below (Below.refl _ _).drew).below hb48).below hb49).below hb50).below hb51).below hb52).below hb53).below (Below.refl _ _).drew).below hb58).below hb59).below hb60)
      have e_f2 := ((((((((((((((((((((((((((At.of (HZ.out.2 2 _ rfl)).below (below_drewN _ 1)).below HU.out.1).below (below_drewN _ 1)).below HU2.out.1).below hb29).below hb35).below (Below.refl _ _).drew).below hb36).below hb37).below hb38).below hc45).below hb46).below hbr).below hb47).below (Below.refl _ _).drew).below hb48).below hb49).below hb50).below hb51).below hb52).below hb53).below (Below.refl _ _).drew).below hb58).below hb59).below hb60).1
      have g_f2 := At.grow ((((((((((((((((((((((((((At.of (HZ.out.2 2 _ rfl)).below (below_drewN _ 1)).below HU.out.1).below (below_drewN _ 1)).below HU2.out.1).below hb29).below hb35).below (Below.refl _ _).drew).below hb36).below hb37).below hb38).below hc45).below hb46).below hbr).below hb47).below (Below.refl _ _).drew).below hb48).below hb49).below hb50).below hb51).below hb52).below hb53).below (Below.refl _ _).drew).below hb58).below hb59).below hb60)
      refine wp_region_grow none [(true, 0), (true, 1), (false, 2), (true, 3), (true, 4), (true, 5), (false, 6), (false, 7), (true, 8), (true, 9)] (by kernel_rfl) (by kernel_rfl) ?_
      repeat (refine ord_pas (by rfl) (fun K hK => ?_); go_simp; refine hK _ _ (fun w' hw' => (by first | (go_simp; done) | (go_simp; intro hh; cases hh))) ?_; clear hK K)
      (refine ord_call (by rfl) (fun K hK => ?_); go_simp; refine hK _ _ ?_; clear hK K)
      refine (CZa.out _ _ (((((((((((((((((((((((((((HNA.out.below HZ.out.1).below (below_drewN _ 1)).below HU.out.1).below (below_drewN _ 1)).below HU2.out.1).below hb29).below hb35).below (Below.refl _ _).drew).below hb36).below hb37).below hb38).below hc45).below hb46).below hbr).below hb47).below (Below.refl _ _).drew).below hb48).below hb49).below hb50).below hb51).below hb52).below hb53).below (Below.refl _ _).drew).below hb58).below hb59).below hb60).below (Below.refl _ _).drew)).mono ?_
      rintro e w61 ⟨rfl, hb61⟩
      refine ⟨_, rfl, Grow.of_below hb61, ?_⟩
      (refine ord_norm (fun K hK => ?_); go_simp; refine hK _ ?_; clear hK K)
      have em_f2 := ((((((((((((((((((((((((((((At.of (HZ.out.2 2 _ rfl)).below (below_drewN _ 1)).below HU.out.1).below (below_drewN _ 1)).below HU2.out.1).below hb29).below hb35).below (Below.refl _ _).drew).below hb36).below hb37).below hb38).below hc45).below hb46).below hbr).below hb47).below (Below.refl _ _).drew).below hb48).below hb49).below hb50).below hb51).below hb52).below hb53).below (Below.refl _ _).drew).below hb58).below hb59).below hb60).below (Below.refl _ _).drew).below hb61).1
      have gm_f2 := At.grow0 ((((((((((((((((((((((((((((At.of (HZ.out.2 2 _ rfl)).below (below_drewN _ 1)).below HU.out.1).below (below_drewN _ 1)).below HU2.out.1).below hb29).below hb35).below (Below.refl _ _).drew).below hb36).below hb37).below hb38).below hc45).below hb46).below hbr).below hb47).below (Below.refl _ _).drew).below hb48).below hb49).below hb50).below hb51).below hb52).below hb53).below (Below.refl _ _).drew).below hb58).below hb59).below hb60).below (Below.refl _ _).drew).below hb61)
      repeat (refine ord_pas (by rfl) (fun K hK => ?_); go_simp; refine hK _ _ (fun w' hw' => (by first | (go_simp; done) | (go_simp; intro hh; cases hh))) ?_; clear hK K)
      clear gm_f2 em_f2
      (refine ord_call (by rfl) (fun K hK => ?_); go_simp; refine hK _ _ ?_; clear hK K)
      refine (word5_any (x := 1) (x' := 1) rfl (by omega)).mono ?_
      rintro e w62 ⟨A_on3, n_on3, c_on3, rfl, o_on3, hb62, l_on3⟩
      refine ⟨_, rfl, Grow.of_below hb62, ?_⟩
      (refine ord_norm (fun K hK => ?_); go_simp; refine hK _ ?_; clear hK K)
      (refine ord_call (by rfl) (fun K hK => ?_); go_simp; refine hK _ _ ?_; clear hK K)
      refine (CCk.out _ _ _ (((((((((((((((((((((((((((((HNK.out.below HZ.out.1).below (below_drewN _ 1)).below HU.out.1).below (below_drewN _ 1)).below HU2.out.1).below hb29).below hb35).below (Below.refl _ _).drew).below hb36).below hb37).below hb38).below hc45).below hb46).below hbr).below hb47).below (Below.refl _ _).drew).below hb48).below hb49).below hb50).below hb51).below hb52).below hb53).below (Below.refl _ _).drew).below hb58).below hb59).below hb60).below (Below.refl _ _).drew).below hb61).below hb62) (o_on3.num l_on3)).mono ?_
      rintro e w63 ⟨rfl, hb63⟩
      refine ⟨_, rfl, Grow.of_below hb63, ?_⟩
      (refine ord_norm (fun K hK => ?_); go_simp; refine hK _ ?_; clear hK K)
      repeat (refine ord_pas (by rfl) (fun K hK => ?_); go_simp; refine hK _ _ (fun w' hw' => (by first | (go_simp; done) | (go_simp; intro hh; cases hh))) ?_; clear hK K)
      refine ord_nil ?_
      clear g_f0 e_f0 g_f2 e_f2
      clear o_on3
      have HEND := Lib.hid (bt (bt (bt (bt (bt (bt (bt (bt (bt (bt (bt (bt (bt (bt (bt (bt (bt (bt (bt (bt (bt (bt (bt (bt (bt (bt (bt (bt (bt HZ.out.1 (below_drewN _ 1)) HU.out.1) (below_drewN _ 1)) HU2.out.1) hb29) hb35) (Below.refl _ _).drew) hb36) hb37) hb38) hc45) hb46) hbr) hb47) (Below.refl _ _).drew) hb48) hb49) hb50) hb51) hb52) hb53) (Below.refl _ _).drew) hb58) hb59) hb60) (Below.refl _ _).drew) hb61) hb62) hb63)
      go_wp2
      go_ret
      exact ⟨by simp, HEND.out⟩
    · have dzk : decide (zk ≤ 0) = false := by rw [hzk, cmp_leq]; exact decide_eq_false (by omega)
      have HK2 := Lib.hid hk2
      have HK0 : Hid (0 < k) := by show _ < _; omega
      clear hzk hk2
      go_wp2_with fail
      have e_f0 := ((((((((((((((((((((((At.of (HZ.out.2 0 _ rfl)).below (below_drewN _ 1)).below HU.out.1).below (below_drewN _ 1)).below HU2.out.1).below hb29).below hb35).below (Below.refl _ _).drew).below hb36).below hb37).below hb38).below hc45).below hb46).below hbr).below hb47).below (Below.refl _ _).drew).below hb48).below hb49).below hb50).below hb51).below hb52).below hb53).1
      have g_f0 := At.grow ((((((((((((((((((((((At.of (HZ.out.2 0 _ rfl)).below (below_drewN _ 1)).below HU.out.1).below (below_drewN _ 1)).below HU2.out.1).below hb29).below hb35).below (Below.refl _ _).drew).below hb36).below hb37).below hb38).below hc45).below hb46).below hbr).below hb47).below (Below.refl _ _).drew).below hb48).below hb49).below hb50).below hb51).below hb52).below hb53)
      have e_f2 := ((((((((((((((((((((((At.of (HZ.out.2 2 _ rfl)).below (below_drewN _ 1)).below HU.out.1).below (below_drewN _ 1)).below HU2.out.1).below hb29).below hb35).below (Below.refl _ _).drew).below hb36).below hb37).below hb38).below hc45).below hb46).below hbr).below hb47).below (Below.refl _ _).drew).below hb48).below hb49).below hb50).below hb51).below hb52).below hb53).1
      have g_f2 := At.grow ((((((((((((((((((((((At.of (HZ.out.2 2 _ rfl)).below (below_drewN _ 1)).below HU.out.1).below (below_drewN _ 1)).below HU2.out.1).below hb29).below hb35).below (Below.refl _ _).drew).below hb36).below hb37).below hb38).below hc45).below hb46).below hbr).below hb47).below (Below.refl _ _).drew).below hb48).below hb49).below hb50).below hb51).below hb52).below hb53)
      refine wp_region_grow none [(true, 0), (true, 1), (true, 3), (true, 4), (false, 2), (false, 5), (false, 6), (true, 7), (true, 8), (true, 9), (true, 10), (true, 11), (true, 12), (true, 13)] (by kernel_rfl) (by kernel_rfl) ?_
      repeat (refine ord_pas (by rfl) (fun K hK => ?_); go_simp; refine hK _ _ (fun w' hw' => (by first | (go_simp; done) | (go_simp; intro hh; cases hh))) ?_; clear hK K)
      (refine ord_call (by rfl) (fun K hK => ?_); go_simp; refine hK _ _ ?_; clear hK K)
      refine (copied05_any (((((((((((((((((((((((HNA.out.below HZ.out.1).below (below_drewN _ 1)).below HU.out.1).below (below_drewN _ 1)).below HU2.out.1).below hb29).below hb35).below (Below.refl _ _).drew).below hb36).below hb37).below hb38).below hc45).below hb46).below hbr).below hb47).below (Below.refl _ _).drew).below hb48).below hb49).below hb50).below hb51).below hb52).below hb53).below (Below.refl _ _).drew) (by omega)).mono ?_
      rintro e w64 ⟨A_ce, n_ce, c_ce, xs_ce, rfl, o_ce, a_ce, v_ce, hb64, l_ce⟩
      have V_ce := Lib.hid v_ce
      clear v_ce
      refine ⟨_, rfl, Grow.of_below hb64, ?_⟩
      (refine ord_norm (fun K hK => ?_); go_simp; refine hK _ ?_; clear hK K)
      (refine ord_call (by rfl) (fun K hK => ?_); go_simp; refine hK _ _ ?_; clear hK K)
      refine (copied05_any ((((((((((((((((((((((((HNK.out.below HZ.out.1).below (below_drewN _ 1)).below HU.out.1).below (below_drewN _ 1)).below HU2.out.1).below hb29).below hb35).below (Below.refl _ _).drew).below hb36).below hb37).below hb38).below hc45).below hb46).below hbr).below hb47).below (Below.refl _ _).drew).below hb48).below hb49).below hb50).below hb51).below hb52).below hb53).below (Below.refl _ _).drew).below hb64) (by omega)).mono ?_
      rintro e w65 ⟨A_cf, n_cf, c_cf, xs_cf, rfl, o_cf, a_cf, v_cf, hb65, l_cf⟩
      have V_cf := Lib.hid v_cf
      clear v_cf
      refine ⟨_, rfl, Grow.of_below hb65, ?_⟩
      (refine ord_norm (fun K hK => ?_); go_simp; refine hK _ ?_; clear hK K)
      (refine ord_call (by rfl) (fun K hK => ?_); go_simp; refine hK _ _ ?_; clear hK K)
      refine (gcount_any ((o_ce.numv a_ce V_ce.out l_ce).below hb65) (o_cf.numv a_cf V_cf.out l_cf) HA0.out HK2.out (by omega) (by omega)).mono ?_
      rintro e wn ⟨cn, sn, A_f, n_f, c_f, rfl, hcok, o_f, hbf, l_f, hle⟩
      refine ⟨_, rfl, Grow.of_below hbf, ?_⟩
      (refine ord_norm (fun K hK => ?_); go_simp; refine hK _ ?_; clear hK K)
      repeat (refine ord_pas (by rfl) (fun K hK => ?_); go_simp; refine hK _ _ (fun w' hw' => (by first | (go_simp; done) | (go_simp; intro hh; cases hh))) ?_; clear hK K)
      refine ord_nil ?_
      clear g_f0 e_f0 g_f2 e_f2
      clear o_ce o_cf
      have HCO := Lib.hid hcok
      have HCL : Hid (cn ≤ 1920 ∧ cn ≤ nb a) := ⟨by have := nb_W HNA.out.lt; omega, hle⟩
      obtain ⟨cz, ecz⟩ : ∃ cz : Int, cz = (cn : Int) := ⟨_, rfl⟩
      obtain ⟨nbz, enb⟩ : ∃ nbz : Int, nbz = ((nb a : Nat) : Int) := ⟨_, rfl⟩
      have dc1 : decide ((0 : Int) ≤ cz) = true := decide_eq_true (by omega)
      have dc2 : decide (cz ≤ nbz) = true := decide_eq_true (by omega)
      have HEC := Lib.hid ecz
      have CB : Hid (∀ (w : World) (v : Value), Num w v a 30 → Calls Try.prog 25 #[v] w (Keeps (.int .i64 nbz) w)) := fun w v h => by rw [enb]; exact bits5_any h (by omega)
      have EQC : Hid (dg W (k ^ cn * sn) = dg W a) := by show _ = _; rw [hcok.1]
      rw [← ecz]
      clear ecz enb hle hcok
      go_wp2_with fail
      have e_f0 := ((((((((((((((((((((((((((At.of (HZ.out.2 0 _ rfl)).below (below_drewN _ 1)).below HU.out.1).below (below_drewN _ 1)).below HU2.out.1).below hb29).below hb35).below (Below.refl _ _).drew).below hb36).below hb37).below hb38).below hc45).below hb46).below hbr).below hb47).below (Below.refl _ _).drew).below hb48).below hb49).below hb50).below hb51).below hb52).below hb53).below (Below.refl _ _).drew).below hb64).below hb65).below hbf).1
      have g_f0 := At.grow ((((((((((((((((((((((((((At.of (HZ.out.2 0 _ rfl)).below (below_drewN _ 1)).below HU.out.1).below (below_drewN _ 1)).below HU2.out.1).below hb29).below hb35).below (Below.refl _ _).drew).below hb36).below hb37).below hb38).below hc45).below hb46).below hbr).below hb47).below (Below.refl _ _).drew).below hb48).below hb49).below hb50).below hb51).below hb52).below hb53).below (Below.refl _ _).drew).below hb64).below hb65).below hbf)
      have e_f2 := ((((((((((((((((((((((((((At.of (HZ.out.2 2 _ rfl)).below (below_drewN _ 1)).below HU.out.1).below (below_drewN _ 1)).below HU2.out.1).below hb29).below hb35).below (Below.refl _ _).drew).below hb36).below hb37).below hb38).below hc45).below hb46).below hbr).below hb47).below (Below.refl _ _).drew).below hb48).below hb49).below hb50).below hb51).below hb52).below hb53).below (Below.refl _ _).drew).below hb64).below hb65).below hbf).1
      have g_f2 := At.grow ((((((((((((((((((((((((((At.of (HZ.out.2 2 _ rfl)).below (below_drewN _ 1)).below HU.out.1).below (below_drewN _ 1)).below HU2.out.1).below hb29).below hb35).below (Below.refl _ _).drew).below hb36).below hb37).below hb38).below hc45).below hb46).below hbr).below hb47).below (Below.refl _ _).drew).below hb48).below hb49).below hb50).below hb51).below hb52).below hb53).below (Below.refl _ _).drew).below hb64).below hb65).below hbf)
      refine wp_region_grow none [(true, 0), (true, 1), (false, 2), (true, 3), (true, 4), (true, 5), (false, 6), (false, 7), (true, 8), (true, 9)] (by kernel_rfl) (by kernel_rfl) ?_
      repeat (refine ord_pas (by rfl) (fun K hK => ?_); go_simp; refine hK _ _ (fun w' hw' => (by first | (go_simp; done) | (go_simp; intro hh; cases hh))) ?_; clear hK K)
      (refine ord_call (by rfl) (fun K hK => ?_); go_simp; refine hK _ _ ?_; clear hK K)
      refine (CZa.out _ _ (((((((((((((((((((((((((((HNA.out.below HZ.out.1).below (below_drewN _ 1)).below HU.out.1).below (below_drewN _ 1)).below HU2.out.1).below hb29).below hb35).below (Below.refl _ _).drew).below hb36).below hb37).below hb38).below hc45).below hb46).below hbr).below hb47).below (Below.refl _ _).drew).below hb48).below hb49).below hb50).below hb51).below hb52).below hb53).below (Below.refl _ _).drew).below hb64).below hb65).below hbf).below (Below.refl _ _).drew)).mono ?_
      rintro e w66 ⟨rfl, hb66⟩
      refine ⟨_, rfl, Grow.of_below hb66, ?_⟩
      (refine ord_norm (fun K hK => ?_); go_simp; refine hK _ ?_; clear hK K)
      have em_f2 := ((((((((((((((((((((((((((((At.of (HZ.out.2 2 _ rfl)).below (below_drewN _ 1)).below HU.out.1).below (below_drewN _ 1)).below HU2.out.1).below hb29).below hb35).below (Below.refl _ _).drew).below hb36).below hb37).below hb38).below hc45).below hb46).below hbr).below hb47).below (Below.refl _ _).drew).below hb48).below hb49).below hb50).below hb51).below hb52).below hb53).below (Below.refl _ _).drew).below hb64).below hb65).below hbf).below (Below.refl _ _).drew).below hb66).1
      have gm_f2 := At.grow0 ((((((((((((((((((((((((((((At.of (HZ.out.2 2 _ rfl)).below (below_drewN _ 1)).below HU.out.1).below (below_drewN _ 1)).below HU2.out.1).below hb29).below hb35).below (Below.refl _ _).drew).below hb36).below hb37).below hb38).below hc45).below hb46).below hbr).below hb47).below (Below.refl _ _).drew).below hb48).below hb49).below hb50).below hb51).below hb52).below hb53).below (Below.refl _ _).drew).below hb64).below hb65).below hbf).below (Below.refl _ _).drew).below hb66)
      repeat (refine ord_pas (by rfl) (fun K hK => ?_); go_simp; refine hK _ _ (fun w' hw' => (by first | (go_simp; done) | (go_simp; intro hh; cases hh))) ?_; clear hK K)
      clear gm_f2 em_f2
      (refine ord_call (by rfl) (fun K hK => ?_); go_simp; refine hK _ _ ?_; clear hK K)
      refine (word5_any (x := 1) (x' := 1) rfl (by omega)).mono ?_
      rintro e w67 ⟨A_on3, n_on3, c_on3, rfl, o_on3, hb67, l_on3⟩
      refine ⟨_, rfl, Grow.of_below hb67, ?_⟩
      (refine ord_norm (fun K hK => ?_); go_simp; refine hK _ ?_; clear hK K)
      (refine ord_call (by rfl) (fun K hK => ?_); go_simp; refine hK _ _ ?_; clear hK K)
      refine (CCk.out _ _ _ (((((((((((((((((((((((((((((HNK.out.below HZ.out.1).below (below_drewN _ 1)).below HU.out.1).below (below_drewN _ 1)).below HU2.out.1).below hb29).below hb35).below (Below.refl _ _).drew).below hb36).below hb37).below hb38).below hc45).below hb46).below hbr).below hb47).below (Below.refl _ _).drew).below hb48).below hb49).below hb50).below hb51).below hb52).below hb53).below (Below.refl _ _).drew).below hb64).below hb65).below hbf).below (Below.refl _ _).drew).below hb66).below hb67) (o_on3.num l_on3)).mono ?_
      rintro e w68 ⟨rfl, hb68⟩
      refine ⟨_, rfl, Grow.of_below hb68, ?_⟩
      (refine ord_norm (fun K hK => ?_); go_simp; refine hK _ ?_; clear hK K)
      repeat (refine ord_pas (by rfl) (fun K hK => ?_); go_simp; refine hK _ _ (fun w' hw' => (by first | (go_simp; done) | (go_simp; intro hh; cases hh))) ?_; clear hK K)
      refine ord_nil ?_
      clear g_f0 e_f0 g_f2 e_f2
      clear o_on3
      have e2 := ((((((((((((((((((((((((((((((At.of (HZ.out.2 2 _ rfl)).below (below_drewN _ 1)).below HU.out.1).below (below_drewN _ 1)).below HU2.out.1).below hb29).below hb35).below (Below.refl _ _).drew).below hb36).below hb37).below hb38).below hc45).below hb46).below hbr).below hb47).below (Below.refl _ _).drew).below hb48).below hb49).below hb50).below hb51).below hb52).below hb53).below (Below.refl _ _).drew).below hb64).below hb65).below hbf).below (Below.refl _ _).drew).below hb66).below hb67).below hb68).1
      go_wp2_with fail
      refine (quo5_any ((((((o_f).num l_f).below (Below.refl _ _).drew).below hb66).below hb67).below hb68) ((((((((((((((((((((((((((((((HNK.out.below HZ.out.1).below (below_drewN _ 1)).below HU.out.1).below (below_drewN _ 1)).below HU2.out.1).below hb29).below hb35).below (Below.refl _ _).drew).below hb36).below hb37).below hb38).below hc45).below hb46).below hbr).below hb47).below (Below.refl _ _).drew).below hb48).below hb49).below hb50).below hb51).below hb52).below hb53).below (Below.refl _ _).drew).below hb64).below hb65).below hbf).below (Below.refl _ _).drew).below hb66).below hb67).below hb68) HK0.out (by omega) (by omega) (by omega) (by omega)).mono ?_
      rintro e w69 ⟨A_qn2, n_qn2, c_qn2, A_rn2, n_rn2, c_rn2, rfl, o_qn2, o_rn2, hb69, l_qn2, l_rn2⟩
      clear e2
      have CZr : Hid (∀ (w : World) (v : Value), Num w v (sn % k) 30 → Calls Try.prog 13 #[v] w (Keeps (.bool false) w)) := fun w v h => by
        have := zero5_any h (by omega)
        rwa [decide_eq_false HCO.out.2] at this
      go_wp2_with fail
      have e_f0 := (((((((((((((((((((((((((((((((At.of (HZ.out.2 0 _ rfl)).below (below_drewN _ 1)).below HU.out.1).below (below_drewN _ 1)).below HU2.out.1).below hb29).below hb35).below (Below.refl _ _).drew).below hb36).below hb37).below hb38).below hc45).below hb46).below hbr).below hb47).below (Below.refl _ _).drew).below hb48).below hb49).below hb50).below hb51).below hb52).below hb53).below (Below.refl _ _).drew).below hb64).below hb65).below hbf).below (Below.refl _ _).drew).below hb66).below hb67).below hb68).below hb69).1
      have g_f0 := At.grow (((((((((((((((((((((((((((((((At.of (HZ.out.2 0 _ rfl)).below (below_drewN _ 1)).below HU.out.1).below (below_drewN _ 1)).below HU2.out.1).below hb29).below hb35).below (Below.refl _ _).drew).below hb36).below hb37).below hb38).below hc45).below hb46).below hbr).below hb47).below (Below.refl _ _).drew).below hb48).below hb49).below hb50).below hb51).below hb52).below hb53).below (Below.refl _ _).drew).below hb64).below hb65).below hbf).below (Below.refl _ _).drew).below hb66).below hb67).below hb68).below hb69)
      have e_f2 := (((((((((((((((((((((((((((((((At.of (HZ.out.2 2 _ rfl)).below (below_drewN _ 1)).below HU.out.1).below (below_drewN _ 1)).below HU2.out.1).below hb29).below hb35).below (Below.refl _ _).drew).below hb36).below hb37).below hb38).below hc45).below hb46).below hbr).below hb47).below (Below.refl _ _).drew).below hb48).below hb49).below hb50).below hb51).below hb52).below hb53).below (Below.refl _ _).drew).below hb64).below hb65).below hbf).below (Below.refl _ _).drew).below hb66).below hb67).below hb68).below hb69).1
      have g_f2 := At.grow (((((((((((((((((((((((((((((((At.of (HZ.out.2 2 _ rfl)).below (below_drewN _ 1)).below HU.out.1).below (below_drewN _ 1)).below HU2.out.1).below hb29).below hb35).below (Below.refl _ _).drew).below hb36).below hb37).below hb38).below hc45).below hb46).below hbr).below hb47).below (Below.refl _ _).drew).below hb48).below hb49).below hb50).below hb51).below hb52).below hb53).below (Below.refl _ _).drew).below hb64).below hb65).below hbf).below (Below.refl _ _).drew).below hb66).below hb67).below hb68).below hb69)
      refine wp_region_grow none [(true, 0), (true, 1), (true, 2), (true, 3), (true, 4), (true, 5), (true, 6), (true, 7), (true, 8), (true, 9), (false, 10), (true, 11), (true, 12), (true, 13), (true, 14), (true, 15), (true, 16), (true, 18), (true, 20), (true, 21), (false, 17), (false, 19), (false, 22), (false, 23), (true, 24), (true, 25), (true, 26), (false, 27), (true, 28), (true, 29), (true, 30)] (by kernel_rfl) (by kernel_rfl) ?_
      repeat (refine ord_pas (by rfl) (fun K hK => ?_); go_simp; refine hK _ _ (fun w' hw' => (by first | (go_simp; done) | (go_simp; intro hh; cases hh))) ?_; clear hK K)
      (refine ord_call (by rfl) (fun K hK => ?_); go_simp; refine hK _ _ ?_; clear hK K)
      refine (CB.out _ _ ((((((((((((((((((((((((((((((((HNA.out.below HZ.out.1).below (below_drewN _ 1)).below HU.out.1).below (below_drewN _ 1)).below HU2.out.1).below hb29).below hb35).below (Below.refl _ _).drew).below hb36).below hb37).below hb38).below hc45).below hb46).below hbr).below hb47).below (Below.refl _ _).drew).below hb48).below hb49).below hb50).below hb51).below hb52).below hb53).below (Below.refl _ _).drew).below hb64).below hb65).below hbf).below (Below.refl _ _).drew).below hb66).below hb67).below hb68).below hb69).below (Below.refl _ _).drew)).mono ?_
      rintro e w70 ⟨rfl, hb70⟩
      refine ⟨_, rfl, Grow.of_below hb70, ?_⟩
      (refine ord_norm (fun K hK => ?_); go_simp; refine hK _ ?_; clear hK K)
      have em_f0 := (((((((((((((((((((((((((((((((((At.of (HZ.out.2 0 _ rfl)).below (below_drewN _ 1)).below HU.out.1).below (below_drewN _ 1)).below HU2.out.1).below hb29).below hb35).below (Below.refl _ _).drew).below hb36).below hb37).below hb38).below hc45).below hb46).below hbr).below hb47).below (Below.refl _ _).drew).below hb48).below hb49).below hb50).below hb51).below hb52).below hb53).below (Below.refl _ _).drew).below hb64).below hb65).below hbf).below (Below.refl _ _).drew).below hb66).below hb67).below hb68).below hb69).below (Below.refl _ _).drew).below hb70).1
      have gm_f0 := At.grow0 (((((((((((((((((((((((((((((((((At.of (HZ.out.2 0 _ rfl)).below (below_drewN _ 1)).below HU.out.1).below (below_drewN _ 1)).below HU2.out.1).below hb29).below hb35).below (Below.refl _ _).drew).below hb36).below hb37).below hb38).below hc45).below hb46).below hbr).below hb47).below (Below.refl _ _).drew).below hb48).below hb49).below hb50).below hb51).below hb52).below hb53).below (Below.refl _ _).drew).below hb64).below hb65).below hbf).below (Below.refl _ _).drew).below hb66).below hb67).below hb68).below hb69).below (Below.refl _ _).drew).below hb70)
      have em_f2 := (((((((((((((((((((((((((((((((((At.of (HZ.out.2 2 _ rfl)).below (below_drewN _ 1)).below HU.out.1).below (below_drewN _ 1)).below HU2.out.1).below hb29).below hb35).below (Below.refl _ _).drew).below hb36).below hb37).below hb38).below hc45).below hb46).below hbr).below hb47).below (Below.refl _ _).drew).below hb48).below hb49).below hb50).below hb51).below hb52).below hb53).below (Below.refl _ _).drew).below hb64).below hb65).below hbf).below (Below.refl _ _).drew).below hb66).below hb67).below hb68).below hb69).below (Below.refl _ _).drew).below hb70).1
      have gm_f2 := At.grow0 (((((((((((((((((((((((((((((((((At.of (HZ.out.2 2 _ rfl)).below (below_drewN _ 1)).below HU.out.1).below (below_drewN _ 1)).below HU2.out.1).below hb29).below hb35).below (Below.refl _ _).drew).below hb36).below hb37).below hb38).below hc45).below hb46).below hbr).below hb47).below (Below.refl _ _).drew).below hb48).below hb49).below hb50).below hb51).below hb52).below hb53).below (Below.refl _ _).drew).below hb64).below hb65).below hbf).below (Below.refl _ _).drew).below hb66).below hb67).below hb68).below hb69).below (Below.refl _ _).drew).below hb70)
      repeat (refine ord_pas (by rfl) (fun K hK => ?_); go_simp; refine hK _ _ (fun w' hw' => (by first | (go_simp; done) | (go_simp; intro hh; cases hh))) ?_; clear hK K)
      clear gm_f0 em_f0 gm_f2 em_f2
      (refine ord_call (by rfl) (fun K hK => ?_); go_simp; refine hK _ _ ?_; clear hK K)
      refine (pow5_any (((((((((((((((((((((((((((((((((HNK.out.below HZ.out.1).below (below_drewN _ 1)).below HU.out.1).below (below_drewN _ 1)).below HU2.out.1).below hb29).below hb35).below (Below.refl _ _).drew).below hb36).below hb37).below hb38).below hc45).below hb46).below hbr).below hb47).below (Below.refl _ _).drew).below hb48).below hb49).below hb50).below hb51).below hb52).below hb53).below (Below.refl _ _).drew).below hb64).below hb65).below hbf).below (Below.refl _ _).drew).below hb66).below hb67).below hb68).below hb69).below (Below.refl _ _).drew).below hb70) (N := cn) HEC.out (by have := HCL.out.1; omega) (by have := HCL.out.1; omega) (by omega)).mono ?_
      rintro e w71 ⟨A_pk, n_pk, c_pk, rfl, o_pk, hb71, l_pk⟩
      refine ⟨_, rfl, Grow.of_below hb71, ?_⟩
      (refine ord_norm (fun K hK => ?_); go_simp; refine hK _ ?_; clear hK K)
      (refine ord_call (by rfl) (fun K hK => ?_); go_simp; refine hK _ _ ?_; clear hK K)
      refine (times5_any (o_pk.num l_pk) ((((((((((o_f).num l_f).below (Below.refl _ _).drew).below hb66).below hb67).below hb68).below hb69).below (Below.refl _ _).drew).below hb70).below hb71) (by have := HCL.out.1; omega) (by omega)).mono ?_
      rintro e w72 ⟨A_tk, n_tk, c_tk, rfl, o_tk, hb72, l_tk⟩
      refine ⟨_, rfl, Grow.of_below hb72, ?_⟩
      (refine ord_norm (fun K hK => ?_); go_simp; refine hK _ ?_; clear hK K)
      (refine ord_call (by rfl) (fun K hK => ?_); go_simp; refine hK _ _ ?_; clear hK K)
      refine (norm5_any (((((((((((((((((((((((((((((((((((HNA.out.below HZ.out.1).below (below_drewN _ 1)).below HU.out.1).below (below_drewN _ 1)).below HU2.out.1).below hb29).below hb35).below (Below.refl _ _).drew).below hb36).below hb37).below hb38).below hc45).below hb46).below hbr).below hb47).below (Below.refl _ _).drew).below hb48).below hb49).below hb50).below hb51).below hb52).below hb53).below (Below.refl _ _).drew).below hb64).below hb65).below hbf).below (Below.refl _ _).drew).below hb66).below hb67).below hb68).below hb69).below (Below.refl _ _).drew).below hb70).below hb71).below hb72) (by omega)).mono ?_
      rintro e w73 ⟨A_na, n_na, c_na, rfl, o_na, hb73, l_na⟩
      refine ⟨_, rfl, Grow.of_below hb73, ?_⟩
      (refine ord_norm (fun K hK => ?_); go_simp; refine hK _ ?_; clear hK K)
      (refine ord_call (by rfl) (fun K hK => ?_); go_simp; refine hK _ _ ?_; clear hK K)
      refine (same5k_any (o_tk.rd.below hb73) o_na.rd EQC.out (by have := HCL.out.1; omega)).mono ?_
      rintro e w74 ⟨rfl, hb74⟩
      refine ⟨_, rfl, Grow.of_below hb74, ?_⟩
      (refine ord_norm (fun K hK => ?_); go_simp; refine hK _ ?_; clear hK K)
      repeat (refine ord_pas (by rfl) (fun K hK => ?_); go_simp; refine hK _ _ (fun w' hw' => (by first | (go_simp; done) | (go_simp; intro hh; cases hh))) ?_; clear hK K)
      (refine ord_call (by rfl) (fun K hK => ?_); go_simp; refine hK _ _ ?_; clear hK K)
      refine (CZr.out _ _ (((((((o_rn2.num l_rn2).below (Below.refl _ _).drew).below hb70).below hb71).below hb72).below hb73).below hb74)).mono ?_
      rintro e w75 ⟨rfl, hb75⟩
      refine ⟨_, rfl, Grow.of_below hb75, ?_⟩
      (refine ord_norm (fun K hK => ?_); go_simp; refine hK _ ?_; clear hK K)
      repeat (refine ord_pas (by rfl) (fun K hK => ?_); go_simp; refine hK _ _ (fun w' hw' => (by first | (go_simp; done) | (go_simp; intro hh; cases hh))) ?_; clear hK K)
      refine ord_nil ?_
      clear g_f0 e_f0 g_f2 e_f2
      clear o_pk o_tk o_na
      have HEND := Lib.hid (bt (bt (bt (bt (bt (bt (bt (bt (bt (bt (bt (bt (bt (bt (bt (bt (bt (bt (bt (bt (bt (bt (bt (bt (bt (bt (bt (bt (bt (bt (bt (bt (bt (bt (bt (bt (bt HZ.out.1 (below_drewN _ 1)) HU.out.1) (below_drewN _ 1)) HU2.out.1) hb29) hb35) (Below.refl _ _).drew) hb36) hb37) hb38) hc45) hb46) hbr) hb47) (Below.refl _ _).drew) hb48) hb49) hb50) hb51) hb52) hb53) (Below.refl _ _).drew) hb64) hb65) hbf) (Below.refl _ _).drew) hb66) hb67) hb68) hb69) (Below.refl _ _).drew) hb70) hb71) hb72) hb73) hb74) hb75)
      go_wp2
      go_ret
      exact ⟨by simp, HEND.out⟩
end Go.Proofs.Ytjglonmnjcnhbaa
