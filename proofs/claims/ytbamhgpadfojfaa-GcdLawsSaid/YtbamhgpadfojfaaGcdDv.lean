/-
  GcdDivisors: Gcd, All, Lcm, AllLcm and Coprime of any numbers are the document's.
-/
import Derived.Test.YtbamhgpadfojfaaGcdHX
namespace Go.Proofs.Ytbamhgpadfojfaa
open Go.RowKit
set_option linter.unusedVariables false

theorem At.of {w : World} {p : Addr} {v : Value} (h : Cel w p v) : At w p v := ⟨h.1, h.2.2⟩
/-- the case in its box -/
def LawB (w0 : World) (vs : Array Value) (wr : World) : Prop := Below w0.heap.size w0 wr ∧ ∀ i v, vs[i]? = some v → Cel wr ⟨w0.heap.size, i, none⟩ v
theorem six {α : Type} {v0 v1 v2 v3 v4 v5 : α} {i : Nat} {v : α} (h : #[v0, v1, v2, v3, v4, v5][i]? = some v) : (i = 0 ∧ v = v0) ∨ (i = 1 ∧ v = v1) ∨ (i = 2 ∧ v = v2) ∨ (i = 3 ∧ v = v3) ∨ (i = 4 ∧ v = v4) ∨ (i = 5 ∧ v = v5) := by
  have hl : i < 6 := by have := (Array.getElem?_eq_some_iff.1 h).1; simpa using this
  rcases (show i = 0 ∨ i = 1 ∨ i = 2 ∨ i = 3 ∨ i = 4 ∨ i = 5 by omega) with rfl | rfl | rfl | rfl | rfl | rfl <;> simp at h <;> simp [h]
theorem LawB.set6 {w0 wr : World} {o0 o1 o2 o3 o4 o5 v0 v1 v2 v3 v4 v5 : Value} (h : LawB w0 #[o0, o1, o2, o3, o4, o5] wr) :
    LawB w0 #[v0, v1, v2, v3, v4, v5] ((((((wr.setCell ⟨w0.heap.size, 0, none⟩ v0).setCell ⟨w0.heap.size, 1, none⟩ v1).setCell ⟨w0.heap.size, 2, none⟩ v2).setCell ⟨w0.heap.size, 3, none⟩ v3).setCell ⟨w0.heap.size, 4, none⟩ v4).setCell ⟨w0.heap.size, 5, none⟩ v5) := by
  obtain ⟨h1, h2⟩ := h
  have p0 := h2 0 _ rfl
  have p1 := h2 1 _ rfl
  have p2 := h2 2 _ rfl
  have p3 := h2 3 _ rfl
  have p4 := h2 4 _ rfl
  have p5 := h2 5 _ rfl
  refine ⟨(((((h1.setCell (p := ⟨w0.heap.size, 0, none⟩) (by simp) _).setCell (p := ⟨w0.heap.size, 1, none⟩) (by simp) _).setCell (p := ⟨w0.heap.size, 2, none⟩) (by simp) _).setCell (p := ⟨w0.heap.size, 3, none⟩) (by simp) _).setCell (p := ⟨w0.heap.size, 4, none⟩) (by simp) _).setCell (p := ⟨w0.heap.size, 5, none⟩) (by simp) _, fun i v hv => ?_⟩
  rcases six hv with ⟨rfl, rfl⟩ | ⟨rfl, rfl⟩ | ⟨rfl, rfl⟩ | ⟨rfl, rfl⟩ | ⟨rfl, rfl⟩ | ⟨rfl, rfl⟩
  · exact (((((p0.put).set (by simp)).set (by simp)).set (by simp)).set (by simp)).set (by simp)
  · exact ((((p1.set (by simp)).put.set (by simp)).set (by simp)).set (by simp)).set (by simp)
  · exact ((((p2.set (by simp)).set (by simp)).put.set (by simp)).set (by simp)).set (by simp)
  · exact ((((p3.set (by simp)).set (by simp)).set (by simp)).put.set (by simp)).set (by simp)
  · exact ((((p4.set (by simp)).set (by simp)).set (by simp)).set (by simp)).put.set (by simp)
  · exact ((((p5.set (by simp)).set (by simp)).set (by simp)).set (by simp)).set (by simp) |>.put
theorem lsum_replicate (n k : Nat) : lsum (List.replicate n k) = k * n := by
  induction n with
  | zero => rfl
  | succ n ih => rw [List.replicate_succ, lsum, ih, Nat.mul_succ]; omega
theorem nth_replicate_le (n k i : Nat) : nth (List.replicate n k) i ≤ k := by
  by_cases h : i < n
  · rw [nth_replicate h]; exact Nat.le_refl _
  · rw [nth_ge (by simpa using h)]; omega
set_option maxHeartbeats 8000000 in
set_option maxRecDepth 100000 in
theorem gcdDivisors_any {vA vB vK : Value} {A3 A4 : Option Addr} {n3 c3 n4 c4 a b k LA LB LK : Nat} {N : Int} {xs ys ls ms : List Nat} {w : World} (hA : Num w vA a LA) (hB : Num w vB b LB) (hK : Num w vK k LK) (h3 : Nums w A3 n3 c3 xs ls) (h4 : Nums w A4 n4 c4 ys ms) :
    Calls Try.prog 3 #[.agg #[vA, vB, vK, .slice A3 n3 c3, .slice A4 n4 c4, .int .i64 N]] w (Keeps (.bool true) w) := by
  have HA := Lib.hid hA
  have HB := Lib.hid hB
  have HK := Lib.hid hK
  have HS3 := Lib.hid h3
  have HS4 := Lib.hid h4
  obtain ⟨pA, nA, cA, _, rfl, _⟩ := id hA
  obtain ⟨pB, nB, cB, _, rfl, _⟩ := id hB
  obtain ⟨pK, nK, cK, _, rfl, _⟩ := id hK
  clear hA hB hK h3 h4
  go_enter Try.func3, Try.ntmps3
  go_wp2_with fail
  refine (fixed05_any).mono ?_
  rintro e w1 ⟨rfl, hb1⟩
  obtain ⟨z0a, z0b, z0c⟩ := ((Cel.box (i := 0) (v := .slice pA nA cA) (t := 26) (b := w.heap.size) w #[.slice pA nA cA, .slice pB nB cB, .slice pK nK cK, .slice A3 n3 c3, .slice A4 n4 c4, .int .i64 N] rfl (by simp)).below hb1)
  obtain ⟨z1a, z1b, z1c⟩ := ((Cel.box (i := 1) (v := .slice pB nB cB) (t := 26) (b := w.heap.size) w #[.slice pA nA cA, .slice pB nB cB, .slice pK nK cK, .slice A3 n3 c3, .slice A4 n4 c4, .int .i64 N] rfl (by simp)).below hb1)
  obtain ⟨z2a, z2b, z2c⟩ := ((Cel.box (i := 2) (v := .slice pK nK cK) (t := 26) (b := w.heap.size) w #[.slice pA nA cA, .slice pB nB cB, .slice pK nK cK, .slice A3 n3 c3, .slice A4 n4 c4, .int .i64 N] rfl (by simp)).below hb1)
  obtain ⟨z3a, z3b, z3c⟩ := ((Cel.box (i := 3) (v := .slice A3 n3 c3) (t := 26) (b := w.heap.size) w #[.slice pA nA cA, .slice pB nB cB, .slice pK nK cK, .slice A3 n3 c3, .slice A4 n4 c4, .int .i64 N] rfl (by simp)).below hb1)
  obtain ⟨z4a, z4b, z4c⟩ := ((Cel.box (i := 4) (v := .slice A4 n4 c4) (t := 26) (b := w.heap.size) w #[.slice pA nA cA, .slice pB nB cB, .slice pK nK cK, .slice A3 n3 c3, .slice A4 n4 c4, .int .i64 N] rfl (by simp)).below hb1)
  obtain ⟨z5a, z5b, z5c⟩ := ((Cel.box (i := 5) (v := .int .i64 N) (t := 26) (b := w.heap.size) w #[.slice pA nA cA, .slice pB nB cB, .slice pK nK cK, .slice A3 n3 c3, .slice A4 n4 c4, .int .i64 N] rfl (by simp)).below hb1)
  go_wp2_with fail
  refine (less05_any (bt ((Below.refl _ _).alloc (Nat.le_refl _) (.cells #[.slice pA nA cA, .slice pB nB cB, .slice pK nK cK, .slice A3 n3 c3, .slice A4 n4 c4, .int .i64 N] 26)) hb1) HA.out HB.out HK.out HS3.out HS4.out).mono ?_
  rintro e wl ⟨uA, uB, uK, pL, nL, cL, vsL, pM, nM, cM, vsM, rfl, ⟨hA, hB, hK⟩, ⟨hnL, oL, vL⟩, ⟨hnM, oM, vM⟩, hbl⟩
  have HOL := Lib.hid (And.intro oL (And.intro oM z0c))
  clear oL oM
  have HLB : Hid (LawB w #[.slice pA nA cA, .slice pB nB cB, .slice pK nK cK, .slice A3 n3 c3, .slice A4 n4 c4, .int .i64 N] wl) := by
    refine ⟨(bt (bt ((Below.refl _ _).alloc (Nat.le_refl _) (.cells #[.slice pA nA cA, .slice pB nB cB, .slice pK nK cK, .slice A3 n3 c3, .slice A4 n4 c4, .int .i64 N] 26)) hb1) hbl), fun i v hv => ?_⟩
    rcases six hv with ⟨rfl, rfl⟩ | ⟨rfl, rfl⟩ | ⟨rfl, rfl⟩ | ⟨rfl, rfl⟩ | ⟨rfl, rfl⟩ | ⟨rfl, rfl⟩
    · exact (((Cel.box (i := 0) (v := .slice pA nA cA) (t := 26) (b := w.heap.size) w #[.slice pA nA cA, .slice pB nB cB, .slice pK nK cK, .slice A3 n3 c3, .slice A4 n4 c4, .int .i64 N] rfl (by simp)).below hb1).below hbl)
    · exact (((Cel.box (i := 1) (v := .slice pB nB cB) (t := 26) (b := w.heap.size) w #[.slice pA nA cA, .slice pB nB cB, .slice pK nK cK, .slice A3 n3 c3, .slice A4 n4 c4, .int .i64 N] rfl (by simp)).below hb1).below hbl)
    · exact (((Cel.box (i := 2) (v := .slice pK nK cK) (t := 26) (b := w.heap.size) w #[.slice pA nA cA, .slice pB nB cB, .slice pK nK cK, .slice A3 n3 c3, .slice A4 n4 c4, .int .i64 N] rfl (by simp)).below hb1).below hbl)
    · exact (((Cel.box (i := 3) (v := .slice A3 n3 c3) (t := 26) (b := w.heap.size) w #[.slice pA nA cA, .slice pB nB cB, .slice pK nK cK, .slice A3 n3 c3, .slice A4 n4 c4, .int .i64 N] rfl (by simp)).below hb1).below hbl)
    · exact (((Cel.box (i := 4) (v := .slice A4 n4 c4) (t := 26) (b := w.heap.size) w #[.slice pA nA cA, .slice pB nB cB, .slice pK nK cK, .slice A3 n3 c3, .slice A4 n4 c4, .int .i64 N] rfl (by simp)).below hb1).below hbl)
    · exact (((Cel.box (i := 5) (v := .int .i64 N) (t := 26) (b := w.heap.size) w #[.slice pA nA cA, .slice pB nB cB, .slice pK nK cK, .slice A3 n3 c3, .slice A4 n4 c4, .int .i64 N] rfl (by simp)).below hb1).below hbl)
  clear z0a z0b z0c z1a z1b z1c z2a z2b z2c z3a z3b z3c z4a z4b z4c z5a z5b z5c
  obtain ⟨z0a, z0b, z0c⟩ := HLB.out.2 0 _ rfl
  obtain ⟨z1a, z1b, z1c⟩ := HLB.out.2 1 _ rfl
  obtain ⟨z2a, z2b, z2c⟩ := HLB.out.2 2 _ rfl
  obtain ⟨z3a, z3b, z3c⟩ := HLB.out.2 3 _ rfl
  obtain ⟨z4a, z4b, z4c⟩ := HLB.out.2 4 _ rfl
  obtain ⟨z5a, z5b, z5c⟩ := HLB.out.2 5 _ rfl
  obtain ⟨pA', nA', cA', _, rfl, _⟩ := id hA
  obtain ⟨pB', nB', cB', _, rfl, _⟩ := id hB
  obtain ⟨pK', nK', cK', _, rfl, _⟩ := id hK
  generalize a % W ^ 30 = a at *
  generalize b % W ^ 30 = b at *
  generalize k % W ^ 30 = k at *
  have HNA := Lib.hid hA
  have HNB := Lib.hid hB
  have HNK := Lib.hid hK
  have HVL := Lib.hid vL
  have HVM := Lib.hid vM
  clear hA hB hK vL vM
  go_wp2_with fail
  obtain ⟨wz, hwz⟩ : ∃ wz : World, wz = ((((((wl.setCell ⟨w.heap.size, 0, none⟩ (.slice pA' nA' cA')).setCell ⟨w.heap.size, 1, none⟩ (.slice pB' nB' cB')).setCell ⟨w.heap.size, 2, none⟩ (.slice pK' nK' cK')).setCell ⟨w.heap.size, 3, none⟩ (.slice pL nL cL)).setCell ⟨w.heap.size, 4, none⟩ (.slice pM nM cM)).setCell ⟨w.heap.size, 5, none⟩ (.int .i64 N)) := ⟨_, rfl⟩
  rw [← hwz]
  have HZ : Hid (LawB w #[.slice pA' nA' cA', .slice pB' nB' cB', .slice pK' nK' cK', .slice pL nL cL, .slice pM nM cM, .int .i64 N] wz) := by
    show LawB _ _ _
    rw [hwz]; exact HLB.out.set6
  have HNL : Hid (Nums wz pL nL cL (vsL.map (mval w)) (List.replicate nL 30)) := by
    show Nums _ _ _ _ _ _
    refine HVL.out.nums (B := w.heap.size + 1) (T := 23) ?_ HZ.out.1
    rw [hwz]
    exact ((((((HOL.out.1.mono HOL.out.2.2).set_low (p := ⟨w.heap.size, 0, none⟩) (by simp) _).set_low (p := ⟨w.heap.size, 1, none⟩) (by simp) _).set_low (p := ⟨w.heap.size, 2, none⟩) (by simp) _).set_low (p := ⟨w.heap.size, 3, none⟩) (by simp) _).set_low (p := ⟨w.heap.size, 4, none⟩) (by simp) _).set_low (p := ⟨w.heap.size, 5, none⟩) (by simp) _
  have HNM : Hid (Nums wz pM nM cM (vsM.map (mval w)) (List.replicate nM 30)) := by
    show Nums _ _ _ _ _ _
    refine HVM.out.nums (B := w.heap.size + 1) (T := 23) ?_ HZ.out.1
    rw [hwz]
    exact ((((((HOL.out.2.1.mono HOL.out.2.2).set_low (p := ⟨w.heap.size, 0, none⟩) (by simp) _).set_low (p := ⟨w.heap.size, 1, none⟩) (by simp) _).set_low (p := ⟨w.heap.size, 2, none⟩) (by simp) _).set_low (p := ⟨w.heap.size, 3, none⟩) (by simp) _).set_low (p := ⟨w.heap.size, 4, none⟩) (by simp) _).set_low (p := ⟨w.heap.size, 5, none⟩) (by simp) _
  clear z0a z0b z0c z1a z1b z1c z2a z2b z2c z3a z3b z3c z4a z4b z4c z5a z5b z5c hwz
  generalize vsL.map (mval w) = xs at *
  generalize vsM.map (mval w) = ys at *
  have HLL := Lib.hid HNL.out.1
  have HLM := Lib.hid HNM.out.1
  have hsL : lsum (List.replicate nL 30) ≤ 600 := by rw [lsum_replicate]; omega
  have hsM : lsum (List.replicate nM 30) ≤ 600 := by rw [lsum_replicate]; omega
  obtain ⟨bb, hbb⟩ : ∃ bb, bb = decide (Nat.gcd a b = 1) := ⟨_, rfl⟩
  have CP1 : Hid (∀ (w : World) (v u : Value), Num w v a 30 → Num w u b 30 → Calls Try.prog 19 #[v, u] w (Keeps (.bool bb) w)) := fun w v u h1 h2 => by rw [hbb]; exact coprime_any h1 h2 (by omega) (by omega)
  have CP2 : Hid (∀ (w : World) (v u : Value), Num w v a 30 → Num w u b 30 → Calls Try.prog 20 #[v, u] w (Keeps (.bool bb) w)) := fun w v u h1 h2 => by rw [hbb]; exact coprime5_any (K := 30) h1 h2 (by omega) (by omega) (by omega) (by omega)
  clear hbb
  go_wp2_with fail
  have e_f0 := (At.of (HZ.out.2 0 _ rfl)).1
  have g_f0 := At.grow (At.of (HZ.out.2 0 _ rfl))
  have e_f1 := (At.of (HZ.out.2 1 _ rfl)).1
  have g_f1 := At.grow (At.of (HZ.out.2 1 _ rfl))
  refine wp_region_grow none [(true, 0), (true, 1), (true, 3), (true, 4), (true, 7), (true, 8), (true, 9), (true, 10), (false, 2), (false, 5), (false, 6), (false, 11), (false, 12), (true, 13), (true, 14), (true, 15), (true, 16), (true, 18), (true, 19), (true, 22), (true, 23), (true, 24), (true, 25), (false, 17), (false, 20), (false, 21), (false, 26), (false, 27), (true, 28), (true, 29)] (by kernel_rfl) (by kernel_rfl) ?_
  repeat (refine ord_pas (by rfl) (fun K hK => ?_); go_simp; refine hK _ _ (fun w' hw' => (by first | (go_simp; done) | (go_simp; intro hh; cases hh))) ?_; clear hK K)
  (refine ord_call (by rfl) (fun K hK => ?_); go_simp; refine hK _ _ ?_; clear hK K)
  refine (copied05_any ((HNA.out.below HZ.out.1).below (Below.refl _ _).drew) (by omega)).mono ?_
  rintro e w1 ⟨A_ca, n_ca, c_ca, xs_ca, rfl, o_ca, a_ca, v_ca, hb1, l_ca⟩
  have V_ca := Lib.hid v_ca
  clear v_ca
  refine ⟨_, rfl, Grow.of_below hb1, ?_⟩
  (refine ord_norm (fun K hK => ?_); go_simp; refine hK _ ?_; clear hK K)
  (refine ord_call (by rfl) (fun K hK => ?_); go_simp; refine hK _ _ ?_; clear hK K)
  refine (copied05_any (((HNB.out.below HZ.out.1).below (Below.refl _ _).drew).below hb1) (by omega)).mono ?_
  rintro e w2 ⟨A_cb, n_cb, c_cb, xs_cb, rfl, o_cb, a_cb, v_cb, hb2, l_cb⟩
  have V_cb := Lib.hid v_cb
  clear v_cb
  refine ⟨_, rfl, Grow.of_below hb2, ?_⟩
  (refine ord_norm (fun K hK => ?_); go_simp; refine hK _ ?_; clear hK K)
  (refine ord_call (by rfl) (fun K hK => ?_); go_simp; refine hK _ _ ?_; clear hK K)
  refine (gcd_any ((o_ca.numv a_ca V_ca.out l_ca).below hb2) (o_cb.numv a_cb V_cb.out l_cb) (by omega) (by omega)).mono ?_
  rintro e w3 ⟨A_g, n_g, c_g, rfl, o_g, hb3, l_g⟩
  refine ⟨_, rfl, Grow.of_below hb3, ?_⟩
  (refine ord_norm (fun K hK => ?_); go_simp; refine hK _ ?_; clear hK K)
  (refine ord_call (by rfl) (fun K hK => ?_); go_simp; refine hK _ _ ?_; clear hK K)
  refine (gcd5_any (K := 30) (((((HNA.out.below HZ.out.1).below (Below.refl _ _).drew).below hb1).below hb2).below hb3) (((((HNB.out.below HZ.out.1).below (Below.refl _ _).drew).below hb1).below hb2).below hb3) (by omega) (by omega) (by omega) (by omega)).mono ?_
  rintro e w4 ⟨A_h, n_h, c_h, rfl, o_h, hb4, l_h⟩
  refine ⟨_, rfl, Grow.of_below hb4, ?_⟩
  (refine ord_norm (fun K hK => ?_); go_simp; refine hK _ ?_; clear hK K)
  (refine ord_call (by rfl) (fun K hK => ?_); go_simp; refine hK _ _ ?_; clear hK K)
  refine (same5k_any (o_g.rd.below hb4) o_h.rd rfl (by omega)).mono ?_
  rintro e w5 ⟨rfl, hb5⟩
  refine ⟨_, rfl, Grow.of_below hb5, ?_⟩
  (refine ord_norm (fun K hK => ?_); go_simp; refine hK _ ?_; clear hK K)
  have em_f0 := (((((((At.of (HZ.out.2 0 _ rfl)).below (Below.refl _ _).drew).below hb1).below hb2).below hb3).below hb4).below hb5).1
  have gm_f0 := At.grow0 (((((((At.of (HZ.out.2 0 _ rfl)).below (Below.refl _ _).drew).below hb1).below hb2).below hb3).below hb4).below hb5)
  have em_f1 := (((((((At.of (HZ.out.2 1 _ rfl)).below (Below.refl _ _).drew).below hb1).below hb2).below hb3).below hb4).below hb5).1
  have gm_f1 := At.grow0 (((((((At.of (HZ.out.2 1 _ rfl)).below (Below.refl _ _).drew).below hb1).below hb2).below hb3).below hb4).below hb5)
  repeat (refine ord_pas (by rfl) (fun K hK => ?_); go_simp; refine hK _ _ (fun w' hw' => (by first | (go_simp; done) | (go_simp; intro hh; cases hh))) ?_; clear hK K)
  clear gm_f0 em_f0 gm_f1 em_f1
  (refine ord_call (by rfl) (fun K hK => ?_); go_simp; refine hK _ _ ?_; clear hK K)
  refine (copied05_any (((((((HNA.out.below HZ.out.1).below (Below.refl _ _).drew).below hb1).below hb2).below hb3).below hb4).below hb5) (by omega)).mono ?_
  rintro e w6 ⟨A_cc, n_cc, c_cc, xs_cc, rfl, o_cc, a_cc, v_cc, hb6, l_cc⟩
  have V_cc := Lib.hid v_cc
  clear v_cc
  refine ⟨_, rfl, Grow.of_below hb6, ?_⟩
  (refine ord_norm (fun K hK => ?_); go_simp; refine hK _ ?_; clear hK K)
  (refine ord_call (by rfl) (fun K hK => ?_); go_simp; refine hK _ _ ?_; clear hK K)
  refine (copied05_any ((((((((HNB.out.below HZ.out.1).below (Below.refl _ _).drew).below hb1).below hb2).below hb3).below hb4).below hb5).below hb6) (by omega)).mono ?_
  rintro e w7 ⟨A_cd, n_cd, c_cd, xs_cd, rfl, o_cd, a_cd, v_cd, hb7, l_cd⟩
  have V_cd := Lib.hid v_cd
  clear v_cd
  refine ⟨_, rfl, Grow.of_below hb7, ?_⟩
  (refine ord_norm (fun K hK => ?_); go_simp; refine hK _ ?_; clear hK K)
  (refine ord_call (by rfl) (fun K hK => ?_); go_simp; refine hK _ _ ?_; clear hK K)
  refine (lcm_any ((o_cc.numv a_cc V_cc.out l_cc).below hb7) (o_cd.numv a_cd V_cd.out l_cd) (by omega) (by omega)).mono ?_
  rintro e w8 ⟨A_i, n_i, c_i, rfl, o_i, hb8, l_i⟩
  refine ⟨_, rfl, Grow.of_below hb8, ?_⟩
  (refine ord_norm (fun K hK => ?_); go_simp; refine hK _ ?_; clear hK K)
  (refine ord_call (by rfl) (fun K hK => ?_); go_simp; refine hK _ _ ?_; clear hK K)
  refine (lcm5_any ((((((((((HNA.out.below HZ.out.1).below (Below.refl _ _).drew).below hb1).below hb2).below hb3).below hb4).below hb5).below hb6).below hb7).below hb8) ((((((((((HNB.out.below HZ.out.1).below (Below.refl _ _).drew).below hb1).below hb2).below hb3).below hb4).below hb5).below hb6).below hb7).below hb8) (by omega) (by omega) (by omega) (by omega)).mono ?_
  rintro e w9 ⟨A_j, n_j, c_j, rfl, o_j, hb9, l_j⟩
  refine ⟨_, rfl, Grow.of_below hb9, ?_⟩
  (refine ord_norm (fun K hK => ?_); go_simp; refine hK _ ?_; clear hK K)
  (refine ord_call (by rfl) (fun K hK => ?_); go_simp; refine hK _ _ ?_; clear hK K)
  refine (same5k_any (o_i.rd.below hb9) o_j.rd rfl (by omega)).mono ?_
  rintro e w10 ⟨rfl, hb10⟩
  refine ⟨_, rfl, Grow.of_below hb10, ?_⟩
  (refine ord_norm (fun K hK => ?_); go_simp; refine hK _ ?_; clear hK K)
  repeat (refine ord_pas (by rfl) (fun K hK => ?_); go_simp; refine hK _ _ (fun w' hw' => (by first | (go_simp; done) | (go_simp; intro hh; cases hh))) ?_; clear hK K)
  refine ord_nil ?_
  clear g_f0 e_f0 g_f1 e_f1
  clear o_ca o_cb o_cc o_cd o_g o_h o_i o_j
  go_wp2_with fail
  have e_f3 := ((((((((((((At.of (HZ.out.2 3 _ rfl)).below (Below.refl _ _).drew).below hb1).below hb2).below hb3).below hb4).below hb5).below hb6).below hb7).below hb8).below hb9).below hb10).1
  have g_f3 := At.grow ((((((((((((At.of (HZ.out.2 3 _ rfl)).below (Below.refl _ _).drew).below hb1).below hb2).below hb3).below hb4).below hb5).below hb6).below hb7).below hb8).below hb9).below hb10)
  refine wp_region_grow none [(true, 0), (true, 1), (true, 4), (true, 5), (false, 2), (false, 3), (false, 6), (false, 7), (true, 8), (true, 9), (true, 10), (true, 11), (true, 14), (true, 15), (false, 12), (false, 13), (false, 16), (false, 17), (true, 18), (true, 19)] (by kernel_rfl) (by kernel_rfl) ?_
  repeat (refine ord_pas (by rfl) (fun K hK => ?_); go_simp; refine hK _ _ (fun w' hw' => (by first | (go_simp; done) | (go_simp; intro hh; cases hh))) ?_; clear hK K)
  (refine ord_call (by rfl) (fun K hK => ?_); go_simp; refine hK _ _ ?_; clear hK K)
  refine (copies05_any ((((((((((((HNL.out.below (Below.refl _ _).drew).below hb1).below hb2).below hb3).below hb4).below hb5).below hb6).below hb7).below hb8).below hb9).below hb10).below (Below.refl _ _).drew) (by omega) (fun i => Nat.le_trans (nth_replicate_le _ _ _) (by omega))).mono ?_
  rintro e w11 ⟨A_c1, c_c1, rfl, o_c1, hb11⟩
  refine ⟨_, rfl, Grow.of_below hb11, ?_⟩
  (refine ord_norm (fun K hK => ?_); go_simp; refine hK _ ?_; clear hK K)
  (refine ord_call (by rfl) (fun K hK => ?_); go_simp; refine hK _ _ ?_; clear hK K)
  refine (all_any (OwnR.nums o_c1 HLL.out.1 HLL.out.2.1 (fun _ _ h => h)) (by omega) (by omega)).mono ?_
  rintro e w12 ⟨A_p, n_p, c_p, rfl, o_p, hb12, l_p⟩
  refine ⟨_, rfl, Grow.of_below hb12, ?_⟩
  (refine ord_norm (fun K hK => ?_); go_simp; refine hK _ ?_; clear hK K)
  (refine ord_call (by rfl) (fun K hK => ?_); go_simp; refine hK _ _ ?_; clear hK K)
  refine (all5_any (K := 30) ((((((((((((((HNL.out.below (Below.refl _ _).drew).below hb1).below hb2).below hb3).below hb4).below hb5).below hb6).below hb7).below hb8).below hb9).below hb10).below (Below.refl _ _).drew).below hb11).below hb12) (by omega) (fun i => nth_replicate_le _ _ _) (by omega) (by omega)).mono ?_
  rintro e w13 ⟨A_q, n_q, c_q, rfl, o_q, hb13, l_q⟩
  refine ⟨_, rfl, Grow.of_below hb13, ?_⟩
  (refine ord_norm (fun K hK => ?_); go_simp; refine hK _ ?_; clear hK K)
  (refine ord_call (by rfl) (fun K hK => ?_); go_simp; refine hK _ _ ?_; clear hK K)
  refine (same5k_any (o_p.rd.below hb13) o_q.rd rfl (by omega)).mono ?_
  rintro e w14 ⟨rfl, hb14⟩
  refine ⟨_, rfl, Grow.of_below hb14, ?_⟩
  (refine ord_norm (fun K hK => ?_); go_simp; refine hK _ ?_; clear hK K)
  have em_f3 := (((((((((((((((((At.of (HZ.out.2 3 _ rfl)).below (Below.refl _ _).drew).below hb1).below hb2).below hb3).below hb4).below hb5).below hb6).below hb7).below hb8).below hb9).below hb10).below (Below.refl _ _).drew).below hb11).below hb12).below hb13).below hb14).1
  have gm_f3 := At.grow0 (((((((((((((((((At.of (HZ.out.2 3 _ rfl)).below (Below.refl _ _).drew).below hb1).below hb2).below hb3).below hb4).below hb5).below hb6).below hb7).below hb8).below hb9).below hb10).below (Below.refl _ _).drew).below hb11).below hb12).below hb13).below hb14)
  repeat (refine ord_pas (by rfl) (fun K hK => ?_); go_simp; refine hK _ _ (fun w' hw' => (by first | (go_simp; done) | (go_simp; intro hh; cases hh))) ?_; clear hK K)
  clear gm_f3 em_f3
  (refine ord_call (by rfl) (fun K hK => ?_); go_simp; refine hK _ _ ?_; clear hK K)
  refine (copies05_any ((((((((((((((((HNL.out.below (Below.refl _ _).drew).below hb1).below hb2).below hb3).below hb4).below hb5).below hb6).below hb7).below hb8).below hb9).below hb10).below (Below.refl _ _).drew).below hb11).below hb12).below hb13).below hb14) (by omega) (fun i => Nat.le_trans (nth_replicate_le _ _ _) (by omega))).mono ?_
  rintro e w15 ⟨A_c2, c_c2, rfl, o_c2, hb15⟩
  refine ⟨_, rfl, Grow.of_below hb15, ?_⟩
  (refine ord_norm (fun K hK => ?_); go_simp; refine hK _ ?_; clear hK K)
  (refine ord_call (by rfl) (fun K hK => ?_); go_simp; refine hK _ _ ?_; clear hK K)
  refine (galllcm_any (OwnR.nums o_c2 HLL.out.1 HLL.out.2.1 (fun _ _ h => h)) (by omega) (fun i hi => by rw [nth_replicate hi]; omega) (by omega)).mono ?_
  rintro e w16 ⟨A_r, n_r, c_r, rfl, o_r, hb16, l_r⟩
  refine ⟨_, rfl, Grow.of_below hb16, ?_⟩
  (refine ord_norm (fun K hK => ?_); go_simp; refine hK _ ?_; clear hK K)
  (refine ord_call (by rfl) (fun K hK => ?_); go_simp; refine hK _ _ ?_; clear hK K)
  refine (alllcm5_any ((((((((((((((((((HNL.out.below (Below.refl _ _).drew).below hb1).below hb2).below hb3).below hb4).below hb5).below hb6).below hb7).below hb8).below hb9).below hb10).below (Below.refl _ _).drew).below hb11).below hb12).below hb13).below hb14).below hb15).below hb16) (by omega) (fun i hi => by rw [nth_replicate hi]; omega) (by omega)).mono ?_
  rintro e w17 ⟨A_s, n_s, c_s, rfl, o_s, hb17, l_s⟩
  refine ⟨_, rfl, Grow.of_below hb17, ?_⟩
  (refine ord_norm (fun K hK => ?_); go_simp; refine hK _ ?_; clear hK K)
  (refine ord_call (by rfl) (fun K hK => ?_); go_simp; refine hK _ _ ?_; clear hK K)
  refine (same5k_any (o_r.rd.below hb17) o_s.rd rfl (by omega)).mono ?_
  rintro e w18 ⟨rfl, hb18⟩
  refine ⟨_, rfl, Grow.of_below hb18, ?_⟩
  (refine ord_norm (fun K hK => ?_); go_simp; refine hK _ ?_; clear hK K)
  repeat (refine ord_pas (by rfl) (fun K hK => ?_); go_simp; refine hK _ _ (fun w' hw' => (by first | (go_simp; done) | (go_simp; intro hh; cases hh))) ?_; clear hK K)
  refine ord_nil ?_
  clear g_f3 e_f3
  clear o_p o_q o_r o_s o_c1 o_c2
  go_wp2_with fail
  have e_f0 := (((((((((((((((((((((At.of (HZ.out.2 0 _ rfl)).below (Below.refl _ _).drew).below hb1).below hb2).below hb3).below hb4).below hb5).below hb6).below hb7).below hb8).below hb9).below hb10).below (Below.refl _ _).drew).below hb11).below hb12).below hb13).below hb14).below hb15).below hb16).below hb17).below hb18).1
  have g_f0 := At.grow (((((((((((((((((((((At.of (HZ.out.2 0 _ rfl)).below (Below.refl _ _).drew).below hb1).below hb2).below hb3).below hb4).below hb5).below hb6).below hb7).below hb8).below hb9).below hb10).below (Below.refl _ _).drew).below hb11).below hb12).below hb13).below hb14).below hb15).below hb16).below hb17).below hb18)
  have e_f1 := (((((((((((((((((((((At.of (HZ.out.2 1 _ rfl)).below (Below.refl _ _).drew).below hb1).below hb2).below hb3).below hb4).below hb5).below hb6).below hb7).below hb8).below hb9).below hb10).below (Below.refl _ _).drew).below hb11).below hb12).below hb13).below hb14).below hb15).below hb16).below hb17).below hb18).1
  have g_f1 := At.grow (((((((((((((((((((((At.of (HZ.out.2 1 _ rfl)).below (Below.refl _ _).drew).below hb1).below hb2).below hb3).below hb4).below hb5).below hb6).below hb7).below hb8).below hb9).below hb10).below (Below.refl _ _).drew).below hb11).below hb12).below hb13).below hb14).below hb15).below hb16).below hb17).below hb18)
  refine wp_region_grow none [(true, 0), (true, 1), (true, 3), (true, 4), (true, 7), (true, 8), (true, 9), (true, 10), (false, 2), (false, 5), (false, 6), (false, 11), (true, 12), (true, 13)] (by kernel_rfl) (by kernel_rfl) ?_
  repeat (refine ord_pas (by rfl) (fun K hK => ?_); go_simp; refine hK _ _ (fun w' hw' => (by first | (go_simp; done) | (go_simp; intro hh; cases hh))) ?_; clear hK K)
  (refine ord_call (by rfl) (fun K hK => ?_); go_simp; refine hK _ _ ?_; clear hK K)
  refine (copied05_any ((((((((((((((((((((((HNA.out.below HZ.out.1).below (Below.refl _ _).drew).below hb1).below hb2).below hb3).below hb4).below hb5).below hb6).below hb7).below hb8).below hb9).below hb10).below (Below.refl _ _).drew).below hb11).below hb12).below hb13).below hb14).below hb15).below hb16).below hb17).below hb18).below (Below.refl _ _).drew) (by omega)).mono ?_
  rintro e w19 ⟨A_ce, n_ce, c_ce, xs_ce, rfl, o_ce, a_ce, v_ce, hb19, l_ce⟩
  have V_ce := Lib.hid v_ce
  clear v_ce
  refine ⟨_, rfl, Grow.of_below hb19, ?_⟩
  (refine ord_norm (fun K hK => ?_); go_simp; refine hK _ ?_; clear hK K)
  (refine ord_call (by rfl) (fun K hK => ?_); go_simp; refine hK _ _ ?_; clear hK K)
  refine (copied05_any (((((((((((((((((((((((HNB.out.below HZ.out.1).below (Below.refl _ _).drew).below hb1).below hb2).below hb3).below hb4).below hb5).below hb6).below hb7).below hb8).below hb9).below hb10).below (Below.refl _ _).drew).below hb11).below hb12).below hb13).below hb14).below hb15).below hb16).below hb17).below hb18).below (Below.refl _ _).drew).below hb19) (by omega)).mono ?_
  rintro e w20 ⟨A_cf, n_cf, c_cf, xs_cf, rfl, o_cf, a_cf, v_cf, hb20, l_cf⟩
  have V_cf := Lib.hid v_cf
  clear v_cf
  refine ⟨_, rfl, Grow.of_below hb20, ?_⟩
  (refine ord_norm (fun K hK => ?_); go_simp; refine hK _ ?_; clear hK K)
  (refine ord_call (by rfl) (fun K hK => ?_); go_simp; refine hK _ _ ?_; clear hK K)
  refine (CP1.out _ _ _ ((o_ce.numv a_ce V_ce.out l_ce).below hb20) (o_cf.numv a_cf V_cf.out l_cf)).mono ?_
  rintro e w21 ⟨rfl, hb21⟩
  refine ⟨_, rfl, Grow.of_below hb21, ?_⟩
  (refine ord_norm (fun K hK => ?_); go_simp; refine hK _ ?_; clear hK K)
  (refine ord_call (by rfl) (fun K hK => ?_); go_simp; refine hK _ _ ?_; clear hK K)
  refine (CP2.out _ _ _ (((((((((((((((((((((((((HNA.out.below HZ.out.1).below (Below.refl _ _).drew).below hb1).below hb2).below hb3).below hb4).below hb5).below hb6).below hb7).below hb8).below hb9).below hb10).below (Below.refl _ _).drew).below hb11).below hb12).below hb13).below hb14).below hb15).below hb16).below hb17).below hb18).below (Below.refl _ _).drew).below hb19).below hb20).below hb21) (((((((((((((((((((((((((HNB.out.below HZ.out.1).below (Below.refl _ _).drew).below hb1).below hb2).below hb3).below hb4).below hb5).below hb6).below hb7).below hb8).below hb9).below hb10).below (Below.refl _ _).drew).below hb11).below hb12).below hb13).below hb14).below hb15).below hb16).below hb17).below hb18).below (Below.refl _ _).drew).below hb19).below hb20).below hb21)).mono ?_
  rintro e w22 ⟨rfl, hb22⟩
  refine ⟨_, rfl, Grow.of_below hb22, ?_⟩
  (refine ord_norm (fun K hK => ?_); go_simp; refine hK _ ?_; clear hK K)
  repeat (refine ord_pas (by rfl) (fun K hK => ?_); go_simp; refine hK _ _ (fun w' hw' => (by first | (go_simp; done) | (go_simp; intro hh; cases hh))) ?_; clear hK K)
  refine ord_nil ?_
  clear g_f0 e_f0 g_f1 e_f1
  go_wp2
  go_ret
  exact ⟨rfl, (bt (bt (bt (bt (bt (bt (bt (bt (bt (bt (bt (bt (bt (bt (bt (bt (bt (bt (bt (bt (bt (bt (bt (bt (bt HZ.out.1 (Below.refl _ _).drew) hb1) hb2) hb3) hb4) hb5) hb6) hb7) hb8) hb9) hb10) (Below.refl _ _).drew) hb11) hb12) hb13) hb14) hb15) hb16) hb17) hb18) (Below.refl _ _).drew) hb19) hb20) hb21) hb22)⟩
end Go.Proofs.Ytbamhgpadfojfaa
