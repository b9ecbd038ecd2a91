/-
  GcdLaws: what divides, sums, products, whatever the order.
-/
import Derived.Test.YtbamhgpadfojfaaGcdDv
namespace Go.Proofs.Ytbamhgpadfojfaa
open Go.RowKit
set_option linter.unusedVariables false

theorem gall_cons (x : Nat) (xs : List Nat) : gall (x :: xs) = Nat.gcd x (gall xs) := by
  have key : ∀ (xs : List Nat) (g : Nat), xs.foldl Nat.gcd g = Nat.gcd g (xs.foldl Nat.gcd 0) := by
    intro xs
    induction xs with
    | nil => intro g; simp
    | cons y ys ih =>
      intro g
      simp only [List.foldl_cons]
      rw [ih, ih (Nat.gcd 0 y), Nat.gcd_zero_left, Nat.gcd_assoc]
  rw [gall, List.foldl_cons, key, Nat.gcd_zero_left]; rfl
theorem gall_perm {xs ys : List Nat} (h : xs.Perm ys) : gall xs = gall ys := by
  induction h with
  | nil => rfl
  | cons x _ ih => rw [gall_cons, gall_cons, ih]
  | swap x y l => rw [gall_cons, gall_cons, gall_cons, gall_cons, ← Nat.gcd_assoc, Nat.gcd_comm y x, Nat.gcd_assoc]
  | trans _ _ ih1 ih2 => rw [ih1, ih2]
theorem llcm_cons (x : Nat) (xs : List Nat) : llcm (x :: xs) = Nat.lcm x (llcm xs) := by
  have key : ∀ (xs : List Nat) (g : Nat), xs.foldl Nat.lcm g = Nat.lcm g (xs.foldl Nat.lcm 1) := by
    intro xs
    induction xs with
    | nil => intro g; simp
    | cons y ys ih =>
      intro g
      simp only [List.foldl_cons]
      rw [ih, ih (Nat.lcm 1 y), Nat.lcm_one_left, Nat.lcm_assoc]
  rw [llcm, List.foldl_cons, key, Nat.lcm_one_left]; rfl
theorem llcm_perm {xs ys : List Nat} (h : xs.Perm ys) : llcm xs = llcm ys := by
  induction h with
  | nil => rfl
  | cons x _ ih => rw [llcm_cons, llcm_cons, ih]
  | swap x y l => rw [llcm_cons, llcm_cons, llcm_cons, llcm_cons, ← Nat.lcm_assoc, Nat.lcm_comm y x, Nat.lcm_assoc]
  | trans _ _ ih1 ih2 => rw [ih1, ih2]
theorem gall_dvd {xs : List Nat} {i : Nat} (h : i < xs.length) : gall xs ∣ nth xs i := by
  induction xs generalizing i with
  | nil => simp at h
  | cons x xs ih =>
    rw [gall_cons]
    rcases i with _ | i
    · simp only [nth, List.getElem?_cons_zero, Option.getD_some]
      exact Nat.gcd_dvd_left _ _
    · have := ih (i := i) (by simpa using h)
      simp only [nth, List.getElem?_cons_succ]
      exact Nat.dvd_trans (Nat.gcd_dvd_right _ _) this

/-- an own slice of own numbers: the values, and each one's number -/
def OwnE (t T : TypeId) (B : Nat) (w : World) (A : Option Addr) (n c : Nat) (vs : List Value) (f : Value → Nat) : Prop :=
  t ≠ T ∧ w.ownsRow B T 1 (.slice A n c) n vs ∧ ∀ v, v ∈ vs → ∃ A' n' c' zs, v = .slice A' n' c' ∧ Own .u64 t B w A' n' c' zs ∧ All W zs ∧ val W zs = f v ∧ zs.length ≤ 30
theorem OwnR.entries {t T : TypeId} {B n c : Nat} {w : World} {A : Option Addr} {xs : List Nat} (h : OwnR .u64 t T B w A n c (FNum xs (List.replicate n 30))) (hx : xs.length = n) :
    ∃ vs, OwnE t T B w A n c vs (mval w) ∧ vs.map (mval w) = xs := by
  obtain ⟨h0, vs, h1, h2⟩ := h
  have hvl : vs.length = n := by have := h1.1; omega
  have hm : ∀ i, i < n → ∃ A' n' c' zs, vs[i]? = some (.slice A' n' c') ∧ Own .u64 t B w A' n' c' zs ∧ All W zs ∧ val W zs = nth xs i ∧ zs.length ≤ 30 ∧ mval w (.slice A' n' c') = nth xs i := by
    intro i hi
    obtain ⟨A', n', c', zs, e, o, f1, f2, f3⟩ := h2 i hi
    rw [nth_replicate hi] at f3
    exact ⟨A', n', c', zs, e, o, f1, f2, f3, by rw [mval_num (o.numv f1 f2 (Nat.le_refl _))]⟩
  refine ⟨vs, ⟨h0, h1, fun v hv => ?_⟩, ?_⟩
  · obtain ⟨i, hi, rfl⟩ := List.getElem_of_mem hv
    obtain ⟨A', n', c', zs, e, o, f1, f2, f3, f4⟩ := hm i (by omega)
    rw [List.getElem?_eq_getElem hi] at e
    injection e with e
    rw [e]
    exact ⟨A', n', c', zs, rfl, o, f1, by rw [f4, f2], f3⟩
  · refine List.ext_getElem (by simp [hvl, hx]) fun i hi hi' => ?_
    have hin : i < n := by simp at hi; omega
    obtain ⟨A', n', c', zs, e, o, f1, f2, f3, f4⟩ := hm i hin
    rw [List.getElem?_eq_getElem (by omega)] at e
    injection e with e
    rw [List.getElem_map, e, f4, nth_lt hi']
theorem OwnE.below {t T : TypeId} {B n c : Nat} {w w' : World} {A : Option Addr} {vs : List Value} {f : Value → Nat} (h : OwnE t T B w A n c vs f) (hb : Below w.heap.size w w') : OwnE t T B w' A n c vs f := by
  obtain ⟨h0, h1, h2⟩ := h
  refine ⟨h0, ownsRow_below h1 hb, fun v hv => ?_⟩
  obtain ⟨A', n', c', zs, e, o, f1⟩ := h2 v hv
  exact ⟨A', n', c', zs, e, o.below hb, f1⟩
theorem OwnE.nums {t T : TypeId} {B n c : Nat} {w : World} {A : Option Addr} {vs : List Value} {f : Value → Nat} (h : OwnE t T B w A n c vs f) : Nums w A n c (vs.map f) (List.replicate n 30) := by
  obtain ⟨h0, h1, h2⟩ := h
  have hvl : vs.length = n := by have := h1.1; omega
  refine OwnV.nums (T := T) (B := B) h1 (by simp [hvl]) (by simp) (OwnV.cap h1).1 fun i v hv => ?_
  obtain ⟨A', n', c', zs, rfl, o, f1, f2, f3⟩ := h2 v (List.mem_of_getElem? hv)
  have hi : i < vs.length := (List.getElem?_eq_some_iff.1 hv).1
  rw [nth_replicate (by omega)]
  have e : nth (vs.map f) i = f (.slice A' n' c') := by simp [nth, hv]
  rw [e]
  exact o.numv f1 f2 (by rw [← o.len]; exact f3)
theorem OwnE.swap {t T : TypeId} {B n c g i j : Nat} {w : World} {vs : List Value} {f : Value → Nat} {u1 u2 : Value} (h : OwnE t T B w (some ⟨g, 0, none⟩) n c vs f) (h1 : u1 ∈ vs) (h2 : u2 ∈ vs) :
    OwnE t T B ((w.setCell ⟨g, i, none⟩ u1).setCell ⟨g, j, none⟩ u2) (some ⟨g, 0, none⟩) n c ((vs.set i u1).set j u2) f := by
  obtain ⟨h0, hr, he⟩ := h
  have r1 := (World.ownsRow.stored (j := i) (u := u1) hr).1
  have r2 := (World.ownsRow.stored (j := j) (u := u2) r1).1
  refine ⟨h0, r2, fun v hv => ?_⟩
  have hm : v ∈ vs := by
    rcases List.mem_or_eq_of_mem_set hv with h3 | h3
    · rcases List.mem_or_eq_of_mem_set h3 with h4 | h4
      · exact h4
      · rw [h4]; exact h1
    · rw [h3]; exact h2
  obtain ⟨A', n', c', zs, e, o, f1⟩ := he v hm
  refine ⟨A', n', c', zs, e, ?_, f1⟩
  have g1 : World.grownBy w (w.setCell ⟨g, i, none⟩ u1) (some g) := ⟨rfl, rfl, rfl, by simp [World.setCell], fun k hk hne => Below.heap_setCell w _ _ k (by rintro rfl; exact hne rfl)⟩
  have g2 : World.grownBy (w.setCell ⟨g, i, none⟩ u1) ((w.setCell ⟨g, i, none⟩ u1).setCell ⟨g, j, none⟩ u2) (some g) := ⟨rfl, rfl, rfl, by simp [World.setCell], fun k hk hne => Below.heap_setCell _ _ _ k (by rintro rfl; exact hne rfl)⟩
  exact (o.other hr h0 g1).other r1 h0 g2

set_option maxHeartbeats 16000000 in
set_option maxRecDepth 100000 in
theorem gcdLaws_z {vA vB vK : Value} {A3 A4 : Option Addr} {n3 c3 n4 c4 a b k LA LB LK : Nat} {N : Int} {xs ys ls ms : List Nat} {w : World} (hA : Num w vA a LA) (hB : Num w vB b LB) (hK : Num w vK k LK) (h3 : Nums w A3 n3 c3 xs ls) (h4 : Nums w A4 n4 c4 ys ms) (hgz : Nat.gcd (a % W ^ 30) (b % W ^ 30) = 0) :
    Calls Try.prog 4 #[.agg #[vA, vB, vK, .slice A3 n3 c3, .slice A4 n4 c4, .int .i64 N]] w (Keeps (.bool true) w) := by
  have HGG := Lib.hid hgz
  clear hgz
  have HA := Lib.hid hA
  have HB := Lib.hid hB
  have HK := Lib.hid hK
  have HS3 := Lib.hid h3
  have HS4 := Lib.hid h4
  obtain ⟨pA, nA, cA, _, rfl, _⟩ := id hA
  obtain ⟨pB, nB, cB, _, rfl, _⟩ := id hB
  obtain ⟨pK, nK, cK, _, rfl, _⟩ := id hK
  clear hA hB hK h3 h4
  go_enter Try.func4, Try.ntmps4
  go_wp2_with fail
  refine (fixed05_any).mono ?_
  rintro e w1 ⟨rfl, hb1⟩
  obtain ⟨z0a, z0b, z0c⟩ := ((Cel.box (i := 0) (v := .slice pA nA cA) (t := 26) (b := w.heap.size) w #[.slice pA nA cA, .slice pB nB cB, .slice pK nK cK, .slice A3 n3 c3, .slice A4 n4 c4, .int .i64 N] rfl (by simp)).below hb1)
  obtain ⟨z1a, z1b, z1c⟩ := ((Cel.box (i := 1) (v := .slice pB nB cB) (t := 26) (b := w.heap.size) w #[.slice pA nA cA, .slice pB nB cB, .slice pK nK cK, .slice A3 n3 c3, .slice A4 n4 c4, .int .i64 N] rfl (by simp)).below hb1)
  obtain ⟨z2a, z2b, z2c⟩ := ((Cel.box (i := 2) (v := .slice pK nK cK) (t := 26) (b := w.heap.size) w #[.slice pA nA cA, .slice pB nB cB, .slice pK nK cK, .slice A3 n3 c3, .slice A4 n4 c4, .int .i64 N] rfl (by simp)).below hb1)
  obtain ⟨z3a, z3b, z3c⟩ := ((Cel.box (i := 3) (v := .slice A3 n3 c3) (t := 26) (b := w.heap.size) w #[.slice pA nA cA, .slice pB nB cB, .slice pK nK cK, .slice A3 n3 c3, .slice A4 n4 c4, .int .i64 N] rfl (by simp)).below hb1)
  obtain ⟨z4a, z4b, z4c⟩ := ((Cel.box (i := 4) (v := .slice A4 n4 c4) (t := 26) (b := w.heap.size) w #[.slice pA nA cA, .slice pB nB cB, .slice pK nK cK, .slice A3 n3 c3, .slice A4 n4 c4, .int .i64 N] rfl (by simp)).below hb1)
  obtain ⟨z5a, z5b, z5c⟩ := ((Cel.box (i := 5) (v := .int .i64 N) (t := 26) (b := w.heap.size) w #[.slice pA nA cA, .slice pB nB cB, .slice pK nK cK, .slice A3 n3 c3, .slice A4 n4 c4, .int .i64 N] rfl (by simp)).below hb1)
  go_wp2_with fail
  refine (less05_any (bt ((Below.refl _ _).alloc (Nat.le_refl _) (.cells #[.slice pA nA cA, .slice pB nB cB, .slice pK nK cK, .slice A3 n3 c3, .slice A4 n4 c4, .int .i64 N] 26)) hb1) HA.out HB.out HK.out HS3.out HS4.out).mono ?_
  rintro e wl ⟨uA, uB, uK, pL, nL, cL, vsL, pM, nM, cM, vsM, rfl, ⟨hA, hB, hK⟩, ⟨hnL, oL, vL⟩, ⟨hnM, oM, vM⟩, hbl⟩
  have HOL := Lib.hid (And.intro oL (And.intro oM z0c))
  clear oL oM
  have HLB : Hid (LawB w #[.slice pA nA cA, .slice pB nB cB, .slice pK nK cK, .slice A3 n3 c3, .slice A4 n4 c4, .int .i64 N] wl) := by
    refine ⟨(bt (bt ((Below.refl _ _).alloc (Nat.le_refl _) (.cells #[.slice pA nA cA, .slice pB nB cB, .slice pK nK cK, .slice A3 n3 c3, .slice A4 n4 c4, .int .i64 N] 26)) hb1) hbl), fun i v hv => ?_⟩
    rcases six hv with ⟨rfl, rfl⟩ | ⟨rfl, rfl⟩ | ⟨rfl, rfl⟩ | ⟨rfl, rfl⟩ | ⟨rfl, rfl⟩ | ⟨rfl, rfl⟩
    · exact (((Cel.box (i := 0) (v := .slice pA nA cA) (t := 26) (b := w.heap.size) w #[.slice pA nA cA, .slice pB nB cB, .slice pK nK cK, .slice A3 n3 c3, .slice A4 n4 c4, .int .i64 N] rfl (by simp)).below hb1).below hbl)
    · exact (((Cel.box (i := 1) (v := .slice pB nB cB) (t := 26) (b := w.heap.size) w #[.slice pA nA cA, .slice pB nB cB, .slice pK nK cK, .slice A3 n3 c3, .slice A4 n4 c4, .int .i64 N] rfl (by simp)).below hb1).below hbl)
    · exact (((Cel.box (i := 2) (v := .slice pK nK cK) (t := 26) (b := w.heap.size) w #[.slice pA nA cA, .slice pB nB cB, .slice pK nK cK, .slice A3 n3 c3, .slice A4 n4 c4, .int .i64 N] rfl (by simp)).below hb1).below hbl)
    · exact (((Cel.box (i := 3) (v := .slice A3 n3 c3) (t := 26) (b := w.heap.size) w #[.slice pA nA cA, .slice pB nB cB, .slice pK nK cK, .slice A3 n3 c3, .slice A4 n4 c4, .int .i64 N] rfl (by simp)).below hb1).below hbl)
    · exact (((Cel.box (i := 4) (v := .slice A4 n4 c4) (t := 26) (b := w.heap.size) w #[.slice pA nA cA, .slice pB nB cB, .slice pK nK cK, .slice A3 n3 c3, .slice A4 n4 c4, .int .i64 N] rfl (by simp)).below hb1).below hbl)
    · exact (((Cel.box (i := 5) (v := .int .i64 N) (t := 26) (b := w.heap.size) w #[.slice pA nA cA, .slice pB nB cB, .slice pK nK cK, .slice A3 n3 c3, .slice A4 n4 c4, .int .i64 N] rfl (by simp)).below hb1).below hbl)
  clear z0a z0b z0c z1a z1b z1c z2a z2b z2c z3a z3b z3c z4a z4b z4c z5a z5b z5c
  obtain ⟨z0a, z0b, z0c⟩ := HLB.out.2 0 _ rfl
  obtain ⟨z1a, z1b, z1c⟩ := HLB.out.2 1 _ rfl
  obtain ⟨z2a, z2b, z2c⟩ := HLB.out.2 2 _ rfl
  obtain ⟨z3a, z3b, z3c⟩ := HLB.out.2 3 _ rfl
  obtain ⟨z4a, z4b, z4c⟩ := HLB.out.2 4 _ rfl
  obtain ⟨z5a, z5b, z5c⟩ := HLB.out.2 5 _ rfl
  obtain ⟨pA', nA', cA', _, rfl, _⟩ := id hA
  obtain ⟨pB', nB', cB', _, rfl, _⟩ := id hB
  obtain ⟨pK', nK', cK', _, rfl, _⟩ := id hK
  generalize a % W ^ 30 = a at *
  generalize b % W ^ 30 = b at *
  generalize k % W ^ 30 = k at *
  have HNA := Lib.hid hA
  have HNB := Lib.hid hB
  have HNK := Lib.hid hK
  have HVL := Lib.hid vL
  have HVM := Lib.hid vM
  clear hA hB hK vL vM
  go_wp2_with fail
  obtain ⟨wz, hwz⟩ : ∃ wz : World, wz = ((((((wl.setCell ⟨w.heap.size, 0, none⟩ (.slice pA' nA' cA')).setCell ⟨w.heap.size, 1, none⟩ (.slice pB' nB' cB')).setCell ⟨w.heap.size, 2, none⟩ (.slice pK' nK' cK')).setCell ⟨w.heap.size, 3, none⟩ (.slice pL nL cL)).setCell ⟨w.heap.size, 4, none⟩ (.slice pM nM cM)).setCell ⟨w.heap.size, 5, none⟩ (.int .i64 N)) := ⟨_, rfl⟩
  rw [← hwz]
  have HZ : Hid (LawB w #[.slice pA' nA' cA', .slice pB' nB' cB', .slice pK' nK' cK', .slice pL nL cL, .slice pM nM cM, .int .i64 N] wz) := by
    show LawB _ _ _
    rw [hwz]; exact HLB.out.set6
  have HNL : Hid (Nums wz pL nL cL (vsL.map (mval w)) (List.replicate nL 30)) := by
    show Nums _ _ _ _ _ _
    refine HVL.out.nums (B := w.heap.size + 1) (T := 23) ?_ HZ.out.1
    rw [hwz]
    exact ((((((HOL.out.1.mono HOL.out.2.2).set_low (p := ⟨w.heap.size, 0, none⟩) (by simp) _).set_low (p := ⟨w.heap.size, 1, none⟩) (by simp) _).set_low (p := ⟨w.heap.size, 2, none⟩) (by simp) _).set_low (p := ⟨w.heap.size, 3, none⟩) (by simp) _).set_low (p := ⟨w.heap.size, 4, none⟩) (by simp) _).set_low (p := ⟨w.heap.size, 5, none⟩) (by simp) _
  have HNM : Hid (Nums wz pM nM cM (vsM.map (mval w)) (List.replicate nM 30)) := by
    show Nums _ _ _ _ _ _
    refine HVM.out.nums (B := w.heap.size + 1) (T := 23) ?_ HZ.out.1
    rw [hwz]
    exact ((((((HOL.out.2.1.mono HOL.out.2.2).set_low (p := ⟨w.heap.size, 0, none⟩) (by simp) _).set_low (p := ⟨w.heap.size, 1, none⟩) (by simp) _).set_low (p := ⟨w.heap.size, 2, none⟩) (by simp) _).set_low (p := ⟨w.heap.size, 3, none⟩) (by simp) _).set_low (p := ⟨w.heap.size, 4, none⟩) (by simp) _).set_low (p := ⟨w.heap.size, 5, none⟩) (by simp) _
  clear z0a z0b z0c z1a z1b z1c z2a z2b z2c z3a z3b z3c z4a z4b z4c z5a z5b z5c hwz
  generalize vsL.map (mval w) = xs at *
  generalize vsM.map (mval w) = ys at *
  have HLL := Lib.hid HNL.out.1
  have HLM := Lib.hid HNM.out.1
  have hsL : lsum (List.replicate nL 30) ≤ 600 := by rw [lsum_replicate]; omega
  have hsM : lsum (List.replicate nM 30) ≤ 600 := by rw [lsum_replicate]; omega
  have hg0 := HGG.out
  have E1 : Hid (dg W (Nat.gcd a b * Nat.lcm a b) = dg W (a * b)) := by show _ = _; rw [Nat.gcd_mul_lcm]
  have E2 : Hid (dg W (Nat.gcd b a) = dg W (Nat.gcd a b)) := by show _ = _; rw [Nat.gcd_comm]
  have E3 : Hid (dg W (Nat.gcd (a + b) b) = dg W (Nat.gcd a b)) := by show _ = _; rw [Nat.gcd_add_self_left]
  have E4 : Hid (dg W (Nat.gcd a 0) = dg W a) := by show _ = _; rw [Nat.gcd_zero_right]
  have E5 : Hid (dg W (Nat.gcd (k * a) (k * b)) = dg W (k * Nat.gcd a b)) := by show _ = _; rw [Nat.gcd_mul_left]
  have E6 : Hid (Nat.gcd a b ≠ 0 → decide (a % Nat.gcd a b = 0) = true ∧ decide (b % Nat.gcd a b = 0) = true) := fun h =>
    ⟨decide_eq_true (Nat.mod_eq_zero_of_dvd (Nat.gcd_dvd_left a b)), decide_eq_true (Nat.mod_eq_zero_of_dvd (Nat.gcd_dvd_right a b))⟩
  go_wp2_with fail
  have e_f0 := (At.of (HZ.out.2 0 _ rfl)).1
  have g_f0 := At.grow (At.of (HZ.out.2 0 _ rfl))
  have e_f1 := (At.of (HZ.out.2 1 _ rfl)).1
  have g_f1 := At.grow (At.of (HZ.out.2 1 _ rfl))
  refine wp_region_grow none [(true, 0), (true, 1), (true, 3), (true, 4), (true, 7), (true, 8), (true, 10), (true, 11), (false, 2), (false, 5), (false, 6), (false, 9), (false, 12), (false, 13), (true, 14), (true, 15)] (by kernel_rfl) (by kernel_rfl) ?_
  repeat (refine ord_pas (by rfl) (fun K hK => ?_); go_simp; refine hK _ _ (fun w' hw' => (by first | (go_simp; done) | (go_simp; intro hh; cases hh))) ?_; clear hK K)
  (refine ord_call (by rfl) (fun K hK => ?_); go_simp; refine hK _ _ ?_; clear hK K)
  refine (copied05_any ((HNA.out.below HZ.out.1).below (Below.refl _ _).drew) (by omega)).mono ?_
  rintro e w1 ⟨A_ca, n_ca, c_ca, xs_ca, rfl, o_ca, a_ca, v_ca, hb1, l_ca⟩
  have V_ca := Lib.hid v_ca
  clear v_ca
  refine ⟨_, rfl, Grow.of_below hb1, ?_⟩
  (refine ord_norm (fun K hK => ?_); go_simp; refine hK _ ?_; clear hK K)
  (refine ord_call (by rfl) (fun K hK => ?_); go_simp; refine hK _ _ ?_; clear hK K)
  refine (copied05_any (((HNB.out.below HZ.out.1).below (Below.refl _ _).drew).below hb1) (by omega)).mono ?_
  rintro e w2 ⟨A_cb, n_cb, c_cb, xs_cb, rfl, o_cb, a_cb, v_cb, hb2, l_cb⟩
  have V_cb := Lib.hid v_cb
  clear v_cb
  refine ⟨_, rfl, Grow.of_below hb2, ?_⟩
  (refine ord_norm (fun K hK => ?_); go_simp; refine hK _ ?_; clear hK K)
  (refine ord_call (by rfl) (fun K hK => ?_); go_simp; refine hK _ _ ?_; clear hK K)
  refine (gcd_any ((o_ca.numv a_ca V_ca.out l_ca).below hb2) (o_cb.numv a_cb V_cb.out l_cb) (by omega) (by omega)).mono ?_
  rintro e w3 ⟨A_g, n_g, c_g, rfl, o_g, hb3, l_g⟩
  refine ⟨_, rfl, Grow.of_below hb3, ?_⟩
  (refine ord_norm (fun K hK => ?_); go_simp; refine hK _ ?_; clear hK K)
  (refine ord_call (by rfl) (fun K hK => ?_); go_simp; refine hK _ _ ?_; clear hK K)
  refine (copied05_any (((((HNA.out.below HZ.out.1).below (Below.refl _ _).drew).below hb1).below hb2).below hb3) (by omega)).mono ?_
  rintro e w4 ⟨A_cc, n_cc, c_cc, xs_cc, rfl, o_cc, a_cc, v_cc, hb4, l_cc⟩
  have V_cc := Lib.hid v_cc
  clear v_cc
  refine ⟨_, rfl, Grow.of_below hb4, ?_⟩
  (refine ord_norm (fun K hK => ?_); go_simp; refine hK _ ?_; clear hK K)
  (refine ord_call (by rfl) (fun K hK => ?_); go_simp; refine hK _ _ ?_; clear hK K)
  refine (copied05_any ((((((HNB.out.below HZ.out.1).below (Below.refl _ _).drew).below hb1).below hb2).below hb3).below hb4) (by omega)).mono ?_
  rintro e w5 ⟨A_cd, n_cd, c_cd, xs_cd, rfl, o_cd, a_cd, v_cd, hb5, l_cd⟩
  have V_cd := Lib.hid v_cd
  clear v_cd
  refine ⟨_, rfl, Grow.of_below hb5, ?_⟩
  (refine ord_norm (fun K hK => ?_); go_simp; refine hK _ ?_; clear hK K)
  (refine ord_call (by rfl) (fun K hK => ?_); go_simp; refine hK _ _ ?_; clear hK K)
  refine (lcm_any ((o_cc.numv a_cc V_cc.out l_cc).below hb5) (o_cd.numv a_cd V_cd.out l_cd) (by omega) (by omega)).mono ?_
  rintro e w6 ⟨A_lc, n_lc, c_lc, rfl, o_lc, hb6, l_lc⟩
  refine ⟨_, rfl, Grow.of_below hb6, ?_⟩
  (refine ord_norm (fun K hK => ?_); go_simp; refine hK _ ?_; clear hK K)
  repeat (refine ord_pas (by rfl) (fun K hK => ?_); go_simp; refine hK _ _ (fun w' hw' => (by first | (go_simp; done) | (go_simp; intro hh; cases hh))) ?_; clear hK K)
  refine ord_nil ?_
  clear g_f0 e_f0 g_f1 e_f1
  clear o_ca o_cb o_cc o_cd
  go_wp2_with fail
  refine wp_region_grow none [(true, 0), (false, 1), (true, 2), (true, 3), (true, 4), (false, 5), (true, 6), (true, 7), (true, 8), (true, 9), (true, 10), (true, 12), (true, 13), (true, 14), (true, 15), (false, 11), (false, 16), (false, 17), (true, 18), (true, 19)] (by kernel_rfl) (by kernel_rfl) ?_
  repeat (refine ord_pas (by rfl) (fun K hK => ?_); go_simp; refine hK _ _ (fun w' hw' => (by first | (go_simp; done) | (go_simp; intro hh; cases hh))) ?_; clear hK K)
  (refine ord_call (by rfl) (fun K hK => ?_); go_simp; refine hK _ _ ?_; clear hK K)
  refine (inForm_yes ((((o_g.rd.below hb4).below hb5).below hb6).below (Below.refl _ _).drew) (by omega)).mono ?_
  rintro e w7 ⟨rfl, hb7⟩
  refine ⟨_, rfl, Grow.of_below hb7, ?_⟩
  (refine ord_norm (fun K hK => ?_); go_simp; refine hK _ ?_; clear hK K)
  repeat (refine ord_pas (by rfl) (fun K hK => ?_); go_simp; refine hK _ _ (fun w' hw' => (by first | (go_simp; done) | (go_simp; intro hh; cases hh))) ?_; clear hK K)
  (refine ord_call (by rfl) (fun K hK => ?_); go_simp; refine hK _ _ ?_; clear hK K)
  refine (inForm_yes ((o_lc.rd.below (Below.refl _ _).drew).below hb7) (by omega)).mono ?_
  rintro e w8 ⟨rfl, hb8⟩
  refine ⟨_, rfl, Grow.of_below hb8, ?_⟩
  (refine ord_norm (fun K hK => ?_); go_simp; refine hK _ ?_; clear hK K)
  have em_f0 := (((((((((((At.of (HZ.out.2 0 _ rfl)).below (Below.refl _ _).drew).below hb1).below hb2).below hb3).below hb4).below hb5).below hb6).below (Below.refl _ _).drew).below hb7).below hb8).1
  have gm_f0 := At.grow0 (((((((((((At.of (HZ.out.2 0 _ rfl)).below (Below.refl _ _).drew).below hb1).below hb2).below hb3).below hb4).below hb5).below hb6).below (Below.refl _ _).drew).below hb7).below hb8)
  have em_f1 := (((((((((((At.of (HZ.out.2 1 _ rfl)).below (Below.refl _ _).drew).below hb1).below hb2).below hb3).below hb4).below hb5).below hb6).below (Below.refl _ _).drew).below hb7).below hb8).1
  have gm_f1 := At.grow0 (((((((((((At.of (HZ.out.2 1 _ rfl)).below (Below.refl _ _).drew).below hb1).below hb2).below hb3).below hb4).below hb5).below hb6).below (Below.refl _ _).drew).below hb7).below hb8)
  repeat (refine ord_pas (by rfl) (fun K hK => ?_); go_simp; refine hK _ _ (fun w' hw' => (by first | (go_simp; done) | (go_simp; intro hh; cases hh))) ?_; clear hK K)
  clear gm_f0 em_f0 gm_f1 em_f1
  (refine ord_call (by rfl) (fun K hK => ?_); go_simp; refine hK _ _ ?_; clear hK K)
  refine (times5_any (((((((o_g.num l_g).below hb4).below hb5).below hb6).below (Below.refl _ _).drew).below hb7).below hb8) ((((o_lc.num l_lc).below (Below.refl _ _).drew).below hb7).below hb8) (by omega) (by omega)).mono ?_
  rintro e w9 ⟨A_p1, n_p1, c_p1, rfl, o_p1, hb9, l_p1⟩
  refine ⟨_, rfl, Grow.of_below hb9, ?_⟩
  (refine ord_norm (fun K hK => ?_); go_simp; refine hK _ ?_; clear hK K)
  (refine ord_call (by rfl) (fun K hK => ?_); go_simp; refine hK _ _ ?_; clear hK K)
  refine (times5_any ((((((((((((HNA.out.below HZ.out.1).below (Below.refl _ _).drew).below hb1).below hb2).below hb3).below hb4).below hb5).below hb6).below (Below.refl _ _).drew).below hb7).below hb8).below hb9) ((((((((((((HNB.out.below HZ.out.1).below (Below.refl _ _).drew).below hb1).below hb2).below hb3).below hb4).below hb5).below hb6).below (Below.refl _ _).drew).below hb7).below hb8).below hb9) (by omega) (by omega)).mono ?_
  rintro e w10 ⟨A_p2, n_p2, c_p2, rfl, o_p2, hb10, l_p2⟩
  refine ⟨_, rfl, Grow.of_below hb10, ?_⟩
  (refine ord_norm (fun K hK => ?_); go_simp; refine hK _ ?_; clear hK K)
  (refine ord_call (by rfl) (fun K hK => ?_); go_simp; refine hK _ _ ?_; clear hK K)
  refine (same5k_any (o_p1.rd.below hb10) o_p2.rd E1.out (by omega)).mono ?_
  rintro e w11 ⟨rfl, hb11⟩
  refine ⟨_, rfl, Grow.of_below hb11, ?_⟩
  (refine ord_norm (fun K hK => ?_); go_simp; refine hK _ ?_; clear hK K)
  repeat (refine ord_pas (by rfl) (fun K hK => ?_); go_simp; refine hK _ _ (fun w' hw' => (by first | (go_simp; done) | (go_simp; intro hh; cases hh))) ?_; clear hK K)
  refine ord_nil ?_
  clear o_p1 o_p2
  have CZ : Hid (∀ (w : World) (v : Value), Num w v (Nat.gcd a b) 60 → Calls Try.prog 23 #[v] w (Keeps (.bool true) w)) := fun w v h => by
    have := zero5_any h (by omega)
    rwa [decide_eq_true hg0] at this
  clear hg0
  go_wp2_with fail
  refine (CZ.out _ _ (((((((((((o_g.num l_g).below hb4).below hb5).below hb6).below (Below.refl _ _).drew).below hb7).below hb8).below hb9).below hb10).below hb11).mono (by omega))).mono ?_
  rintro e w12 ⟨rfl, hb12⟩
  go_wp2_with fail
  have e_f0 := (((((((((((((((At.of (HZ.out.2 0 _ rfl)).below (Below.refl _ _).drew).below hb1).below hb2).below hb3).below hb4).below hb5).below hb6).below (Below.refl _ _).drew).below hb7).below hb8).below hb9).below hb10).below hb11).below hb12).1
  have g_f0 := At.grow (((((((((((((((At.of (HZ.out.2 0 _ rfl)).below (Below.refl _ _).drew).below hb1).below hb2).below hb3).below hb4).below hb5).below hb6).below (Below.refl _ _).drew).below hb7).below hb8).below hb9).below hb10).below hb11).below hb12)
  have e_f1 := (((((((((((((((At.of (HZ.out.2 1 _ rfl)).below (Below.refl _ _).drew).below hb1).below hb2).below hb3).below hb4).below hb5).below hb6).below (Below.refl _ _).drew).below hb7).below hb8).below hb9).below hb10).below hb11).below hb12).1
  have g_f1 := At.grow (((((((((((((((At.of (HZ.out.2 1 _ rfl)).below (Below.refl _ _).drew).below hb1).below hb2).below hb3).below hb4).below hb5).below hb6).below (Below.refl _ _).drew).below hb7).below hb8).below hb9).below hb10).below hb11).below hb12)
  refine wp_region_grow none [(true, 0), (true, 1), (true, 3), (true, 4), (true, 7), (false, 2), (false, 5), (false, 6), (false, 8), (true, 9), (true, 10), (true, 11), (true, 12), (true, 13), (true, 14), (true, 16), (true, 17), (true, 20), (false, 15), (false, 18), (false, 19), (false, 21), (true, 22), (true, 23), (true, 24), (true, 25), (true, 26), (true, 29), (true, 30), (false, 27), (false, 28), (false, 31), (false, 32), (true, 33), (true, 34)] (by kernel_rfl) (by kernel_rfl) ?_
  repeat (refine ord_pas (by rfl) (fun K hK => ?_); go_simp; refine hK _ _ (fun w' hw' => (by first | (go_simp; done) | (go_simp; intro hh; cases hh))) ?_; clear hK K)
  (refine ord_call (by rfl) (fun K hK => ?_); go_simp; refine hK _ _ ?_; clear hK K)
  refine (copied05_any ((((((((((((((((HNB.out.below HZ.out.1).below (Below.refl _ _).drew).below hb1).below hb2).below hb3).below hb4).below hb5).below hb6).below (Below.refl _ _).drew).below hb7).below hb8).below hb9).below hb10).below hb11).below hb12).below (Below.refl _ _).drew) (by omega)).mono ?_
  rintro e w13 ⟨A_ce, n_ce, c_ce, xs_ce, rfl, o_ce, a_ce, v_ce, hb13, l_ce⟩
  have V_ce := Lib.hid v_ce
  clear v_ce
  refine ⟨_, rfl, Grow.of_below hb13, ?_⟩
  (refine ord_norm (fun K hK => ?_); go_simp; refine hK _ ?_; clear hK K)
  (refine ord_call (by rfl) (fun K hK => ?_); go_simp; refine hK _ _ ?_; clear hK K)
  refine (copied05_any (((((((((((((((((HNA.out.below HZ.out.1).below (Below.refl _ _).drew).below hb1).below hb2).below hb3).below hb4).below hb5).below hb6).below (Below.refl _ _).drew).below hb7).below hb8).below hb9).below hb10).below hb11).below hb12).below (Below.refl _ _).drew).below hb13) (by omega)).mono ?_
  rintro e w14 ⟨A_cf, n_cf, c_cf, xs_cf, rfl, o_cf, a_cf, v_cf, hb14, l_cf⟩
  have V_cf := Lib.hid v_cf
  clear v_cf
  refine ⟨_, rfl, Grow.of_below hb14, ?_⟩
  (refine ord_norm (fun K hK => ?_); go_simp; refine hK _ ?_; clear hK K)
  (refine ord_call (by rfl) (fun K hK => ?_); go_simp; refine hK _ _ ?_; clear hK K)
  refine (gcd_any ((o_ce.numv a_ce V_ce.out l_ce).below hb14) (o_cf.numv a_cf V_cf.out l_cf) (by omega) (by omega)).mono ?_
  rintro e w15 ⟨A_g2, n_g2, c_g2, rfl, o_g2, hb15, l_g2⟩
  refine ⟨_, rfl, Grow.of_below hb15, ?_⟩
  (refine ord_norm (fun K hK => ?_); go_simp; refine hK _ ?_; clear hK K)
  (refine ord_call (by rfl) (fun K hK => ?_); go_simp; refine hK _ _ ?_; clear hK K)
  refine (same5k_any o_g2.rd ((((((((((((((o_g.rd.below hb4).below hb5).below hb6).below (Below.refl _ _).drew).below hb7).below hb8).below hb9).below hb10).below hb11).below hb12).below (Below.refl _ _).drew).below hb13).below hb14).below hb15) E2.out (by omega)).mono ?_
  rintro e w16 ⟨rfl, hb16⟩
  refine ⟨_, rfl, Grow.of_below hb16, ?_⟩
  (refine ord_norm (fun K hK => ?_); go_simp; refine hK _ ?_; clear hK K)
  have em_f0 := ((((((((((((((((((((At.of (HZ.out.2 0 _ rfl)).below (Below.refl _ _).drew).below hb1).below hb2).below hb3).below hb4).below hb5).below hb6).below (Below.refl _ _).drew).below hb7).below hb8).below hb9).below hb10).below hb11).below hb12).below (Below.refl _ _).drew).below hb13).below hb14).below hb15).below hb16).1
  have gm_f0 := At.grow0 ((((((((((((((((((((At.of (HZ.out.2 0 _ rfl)).below (Below.refl _ _).drew).below hb1).below hb2).below hb3).below hb4).below hb5).below hb6).below (Below.refl _ _).drew).below hb7).below hb8).below hb9).below hb10).below hb11).below hb12).below (Below.refl _ _).drew).below hb13).below hb14).below hb15).below hb16)
  have em_f1 := ((((((((((((((((((((At.of (HZ.out.2 1 _ rfl)).below (Below.refl _ _).drew).below hb1).below hb2).below hb3).below hb4).below hb5).below hb6).below (Below.refl _ _).drew).below hb7).below hb8).below hb9).below hb10).below hb11).below hb12).below (Below.refl _ _).drew).below hb13).below hb14).below hb15).below hb16).1
  have gm_f1 := At.grow0 ((((((((((((((((((((At.of (HZ.out.2 1 _ rfl)).below (Below.refl _ _).drew).below hb1).below hb2).below hb3).below hb4).below hb5).below hb6).below (Below.refl _ _).drew).below hb7).below hb8).below hb9).below hb10).below hb11).below hb12).below (Below.refl _ _).drew).below hb13).below hb14).below hb15).below hb16)
  repeat (refine ord_pas (by rfl) (fun K hK => ?_); go_simp; refine hK _ _ (fun w' hw' => (by first | (go_simp; done) | (go_simp; intro hh; cases hh))) ?_; clear hK K)
  clear gm_f0 em_f0 gm_f1 em_f1
  (refine ord_call (by rfl) (fun K hK => ?_); go_simp; refine hK _ _ ?_; clear hK K)
  refine (plus5_any ((((((((((((((((((((HNA.out.below HZ.out.1).below (Below.refl _ _).drew).below hb1).below hb2).below hb3).below hb4).below hb5).below hb6).below (Below.refl _ _).drew).below hb7).below hb8).below hb9).below hb10).below hb11).below hb12).below (Below.refl _ _).drew).below hb13).below hb14).below hb15).below hb16) ((((((((((((((((((((HNB.out.below HZ.out.1).below (Below.refl _ _).drew).below hb1).below hb2).below hb3).below hb4).below hb5).below hb6).below (Below.refl _ _).drew).below hb7).below hb8).below hb9).below hb10).below hb11).below hb12).below (Below.refl _ _).drew).below hb13).below hb14).below hb15).below hb16) (by omega) (by omega)).mono ?_
  rintro e w17 ⟨A_p3, n_p3, c_p3, rfl, o_p3, hb17, l_p3⟩
  refine ⟨_, rfl, Grow.of_below hb17, ?_⟩
  (refine ord_norm (fun K hK => ?_); go_simp; refine hK _ ?_; clear hK K)
  (refine ord_call (by rfl) (fun K hK => ?_); go_simp; refine hK _ _ ?_; clear hK K)
  refine (copied05_any (((((((((((((((((((((HNB.out.below HZ.out.1).below (Below.refl _ _).drew).below hb1).below hb2).below hb3).below hb4).below hb5).below hb6).below (Below.refl _ _).drew).below hb7).below hb8).below hb9).below hb10).below hb11).below hb12).below (Below.refl _ _).drew).below hb13).below hb14).below hb15).below hb16).below hb17) (by omega)).mono ?_
  rintro e w18 ⟨A_ch, n_ch, c_ch, xs_ch, rfl, o_ch, a_ch, v_ch, hb18, l_ch⟩
  have V_ch := Lib.hid v_ch
  clear v_ch
  refine ⟨_, rfl, Grow.of_below hb18, ?_⟩
  (refine ord_norm (fun K hK => ?_); go_simp; refine hK _ ?_; clear hK K)
  (refine ord_call (by rfl) (fun K hK => ?_); go_simp; refine hK _ _ ?_; clear hK K)
  refine (gcd_any ((o_p3.num l_p3).below hb18) (o_ch.numv a_ch V_ch.out l_ch) (by omega) (by omega)).mono ?_
  rintro e w19 ⟨A_g3, n_g3, c_g3, rfl, o_g3, hb19, l_g3⟩
  refine ⟨_, rfl, Grow.of_below hb19, ?_⟩
  (refine ord_norm (fun K hK => ?_); go_simp; refine hK _ ?_; clear hK K)
  (refine ord_call (by rfl) (fun K hK => ?_); go_simp; refine hK _ _ ?_; clear hK K)
  refine (same5k_any o_g3.rd ((((((((((((((((((o_g.rd.below hb4).below hb5).below hb6).below (Below.refl _ _).drew).below hb7).below hb8).below hb9).below hb10).below hb11).below hb12).below (Below.refl _ _).drew).below hb13).below hb14).below hb15).below hb16).below hb17).below hb18).below hb19) E3.out (by omega)).mono ?_
  rintro e w20 ⟨rfl, hb20⟩
  refine ⟨_, rfl, Grow.of_below hb20, ?_⟩
  (refine ord_norm (fun K hK => ?_); go_simp; refine hK _ ?_; clear hK K)
  have em_f0 := ((((((((((((((((((((((((At.of (HZ.out.2 0 _ rfl)).below (Below.refl _ _).drew).below hb1).below hb2).below hb3).below hb4).below hb5).below hb6).below (Below.refl _ _).drew).below hb7).below hb8).below hb9).below hb10).below hb11).below hb12).below (Below.refl _ _).drew).below hb13).below hb14).below hb15).below hb16).below hb17).below hb18).below hb19).below hb20).1
  have gm_f0 := At.grow0 ((((((((((((((((((((((((At.of (HZ.out.2 0 _ rfl)).below (Below.refl _ _).drew).below hb1).below hb2).below hb3).below hb4).below hb5).below hb6).below (Below.refl _ _).drew).below hb7).below hb8).below hb9).below hb10).below hb11).below hb12).below (Below.refl _ _).drew).below hb13).below hb14).below hb15).below hb16).below hb17).below hb18).below hb19).below hb20)
  repeat (refine ord_pas (by rfl) (fun K hK => ?_); go_simp; refine hK _ _ (fun w' hw' => (by first | (go_simp; done) | (go_simp; intro hh; cases hh))) ?_; clear hK K)
  clear gm_f0 em_f0
  (refine ord_call (by rfl) (fun K hK => ?_); go_simp; refine hK _ _ ?_; clear hK K)
  refine (copied05_any ((((((((((((((((((((((((HNA.out.below HZ.out.1).below (Below.refl _ _).drew).below hb1).below hb2).below hb3).below hb4).below hb5).below hb6).below (Below.refl _ _).drew).below hb7).below hb8).below hb9).below hb10).below hb11).below hb12).below (Below.refl _ _).drew).below hb13).below hb14).below hb15).below hb16).below hb17).below hb18).below hb19).below hb20) (by omega)).mono ?_
  rintro e w21 ⟨A_ci, n_ci, c_ci, xs_ci, rfl, o_ci, a_ci, v_ci, hb21, l_ci⟩
  have V_ci := Lib.hid v_ci
  clear v_ci
  refine ⟨_, rfl, Grow.of_below hb21, ?_⟩
  (refine ord_norm (fun K hK => ?_); go_simp; refine hK _ ?_; clear hK K)
  (refine ord_call (by rfl) (fun K hK => ?_); go_simp; refine hK _ _ ?_; clear hK K)
  refine (gcd_any (o_ci.numv a_ci V_ci.out l_ci) Num.nil (by omega) (by omega)).mono ?_
  rintro e w22 ⟨A_g4, n_g4, c_g4, rfl, o_g4, hb22, l_g4⟩
  refine ⟨_, rfl, Grow.of_below hb22, ?_⟩
  (refine ord_norm (fun K hK => ?_); go_simp; refine hK _ ?_; clear hK K)
  (refine ord_call (by rfl) (fun K hK => ?_); go_simp; refine hK _ _ ?_; clear hK K)
  refine (norm5_any ((((((((((((((((((((((((((HNA.out.below HZ.out.1).below (Below.refl _ _).drew).below hb1).below hb2).below hb3).below hb4).below hb5).below hb6).below (Below.refl _ _).drew).below hb7).below hb8).below hb9).below hb10).below hb11).below hb12).below (Below.refl _ _).drew).below hb13).below hb14).below hb15).below hb16).below hb17).below hb18).below hb19).below hb20).below hb21).below hb22) (by omega)).mono ?_
  rintro e w23 ⟨A_nn, n_nn, c_nn, rfl, o_nn, hb23, l_nn⟩
  refine ⟨_, rfl, Grow.of_below hb23, ?_⟩
  (refine ord_norm (fun K hK => ?_); go_simp; refine hK _ ?_; clear hK K)
  (refine ord_call (by rfl) (fun K hK => ?_); go_simp; refine hK _ _ ?_; clear hK K)
  refine (same5k_any (o_g4.rd.below hb23) o_nn.rd E4.out (by omega)).mono ?_
  rintro e w24 ⟨rfl, hb24⟩
  refine ⟨_, rfl, Grow.of_below hb24, ?_⟩
  (refine ord_norm (fun K hK => ?_); go_simp; refine hK _ ?_; clear hK K)
  repeat (refine ord_pas (by rfl) (fun K hK => ?_); go_simp; refine hK _ _ (fun w' hw' => (by first | (go_simp; done) | (go_simp; intro hh; cases hh))) ?_; clear hK K)
  refine ord_nil ?_
  clear g_f0 e_f0 g_f1 e_f1
  clear o_ce o_cf o_g2 o_p3 o_ch o_g3 o_ci o_g4 o_nn
  go_wp2_with fail
  have e_f0 := ((((((((((((((((((((((((((((At.of (HZ.out.2 0 _ rfl)).below (Below.refl _ _).drew).below hb1).below hb2).below hb3).below hb4).below hb5).below hb6).below (Below.refl _ _).drew).below hb7).below hb8).below hb9).below hb10).below hb11).below hb12).below (Below.refl _ _).drew).below hb13).below hb14).below hb15).below hb16).below hb17).below hb18).below hb19).below hb20).below hb21).below hb22).below hb23).below hb24).1
  have g_f0 := At.grow ((((((((((((((((((((((((((((At.of (HZ.out.2 0 _ rfl)).below (Below.refl _ _).drew).below hb1).below hb2).below hb3).below hb4).below hb5).below hb6).below (Below.refl _ _).drew).below hb7).below hb8).below hb9).below hb10).below hb11).below hb12).below (Below.refl _ _).drew).below hb13).below hb14).below hb15).below hb16).below hb17).below hb18).below hb19).below hb20).below hb21).below hb22).below hb23).below hb24)
  have e_f1 := ((((((((((((((((((((((((((((At.of (HZ.out.2 1 _ rfl)).below (Below.refl _ _).drew).below hb1).below hb2).below hb3).below hb4).below hb5).below hb6).below (Below.refl _ _).drew).below hb7).below hb8).below hb9).below hb10).below hb11).below hb12).below (Below.refl _ _).drew).below hb13).below hb14).below hb15).below hb16).below hb17).below hb18).below hb19).below hb20).below hb21).below hb22).below hb23).below hb24).1
  have g_f1 := At.grow ((((((((((((((((((((((((((((At.of (HZ.out.2 1 _ rfl)).below (Below.refl _ _).drew).below hb1).below hb2).below hb3).below hb4).below hb5).below hb6).below (Below.refl _ _).drew).below hb7).below hb8).below hb9).below hb10).below hb11).below hb12).below (Below.refl _ _).drew).below hb13).below hb14).below hb15).below hb16).below hb17).below hb18).below hb19).below hb20).below hb21).below hb22).below hb23).below hb24)
  have e_f2 := ((((((((((((((((((((((((((((At.of (HZ.out.2 2 _ rfl)).below (Below.refl _ _).drew).below hb1).below hb2).below hb3).below hb4).below hb5).below hb6).below (Below.refl _ _).drew).below hb7).below hb8).below hb9).below hb10).below hb11).below hb12).below (Below.refl _ _).drew).below hb13).below hb14).below hb15).below hb16).below hb17).below hb18).below hb19).below hb20).below hb21).below hb22).below hb23).below hb24).1
  have g_f2 := At.grow ((((((((((((((((((((((((((((At.of (HZ.out.2 2 _ rfl)).below (Below.refl _ _).drew).below hb1).below hb2).below hb3).below hb4).below hb5).below hb6).below (Below.refl _ _).drew).below hb7).below hb8).below hb9).below hb10).below hb11).below hb12).below (Below.refl _ _).drew).below hb13).below hb14).below hb15).below hb16).below hb17).below hb18).below hb19).below hb20).below hb21).below hb22).below hb23).below hb24)
  refine wp_region_grow none [(true, 0), (true, 1), (true, 2), (true, 3), (true, 5), (true, 6), (true, 7), (true, 8), (true, 11), (true, 12), (true, 13), (false, 4), (false, 9), (false, 10), (false, 14), (false, 15), (true, 16)] (by kernel_rfl) (by kernel_rfl) ?_
  repeat (refine ord_pas (by rfl) (fun K hK => ?_); go_simp; refine hK _ _ (fun w' hw' => (by first | (go_simp; done) | (go_simp; intro hh; cases hh))) ?_; clear hK K)
  (refine ord_call (by rfl) (fun K hK => ?_); go_simp; refine hK _ _ ?_; clear hK K)
  refine (times5_any (((((((((((((((((((((((((((((HNK.out.below HZ.out.1).below (Below.refl _ _).drew).below hb1).below hb2).below hb3).below hb4).below hb5).below hb6).below (Below.refl _ _).drew).below hb7).below hb8).below hb9).below hb10).below hb11).below hb12).below (Below.refl _ _).drew).below hb13).below hb14).below hb15).below hb16).below hb17).below hb18).below hb19).below hb20).below hb21).below hb22).below hb23).below hb24).below (Below.refl _ _).drew) (((((((((((((((((((((((((((((HNA.out.below HZ.out.1).below (Below.refl _ _).drew).below hb1).below hb2).below hb3).below hb4).below hb5).below hb6).below (Below.refl _ _).drew).below hb7).below hb8).below hb9).below hb10).below hb11).below hb12).below (Below.refl _ _).drew).below hb13).below hb14).below hb15).below hb16).below hb17).below hb18).below hb19).below hb20).below hb21).below hb22).below hb23).below hb24).below (Below.refl _ _).drew) (by omega) (by omega)).mono ?_
  rintro e w25 ⟨A_p4, n_p4, c_p4, rfl, o_p4, hb25, l_p4⟩
  refine ⟨_, rfl, Grow.of_below hb25, ?_⟩
  (refine ord_norm (fun K hK => ?_); go_simp; refine hK _ ?_; clear hK K)
  (refine ord_call (by rfl) (fun K hK => ?_); go_simp; refine hK _ _ ?_; clear hK K)
  refine (times5_any ((((((((((((((((((((((((((((((HNK.out.below HZ.out.1).below (Below.refl _ _).drew).below hb1).below hb2).below hb3).below hb4).below hb5).below hb6).below (Below.refl _ _).drew).below hb7).below hb8).below hb9).below hb10).below hb11).below hb12).below (Below.refl _ _).drew).below hb13).below hb14).below hb15).below hb16).below hb17).below hb18).below hb19).below hb20).below hb21).below hb22).below hb23).below hb24).below (Below.refl _ _).drew).below hb25) ((((((((((((((((((((((((((((((HNB.out.below HZ.out.1).below (Below.refl _ _).drew).below hb1).below hb2).below hb3).below hb4).below hb5).below hb6).below (Below.refl _ _).drew).below hb7).below hb8).below hb9).below hb10).below hb11).below hb12).below (Below.refl _ _).drew).below hb13).below hb14).below hb15).below hb16).below hb17).below hb18).below hb19).below hb20).below hb21).below hb22).below hb23).below hb24).below (Below.refl _ _).drew).below hb25) (by omega) (by omega)).mono ?_
  rintro e w26 ⟨A_p5, n_p5, c_p5, rfl, o_p5, hb26, l_p5⟩
  refine ⟨_, rfl, Grow.of_below hb26, ?_⟩
  (refine ord_norm (fun K hK => ?_); go_simp; refine hK _ ?_; clear hK K)
  (refine ord_call (by rfl) (fun K hK => ?_); go_simp; refine hK _ _ ?_; clear hK K)
  refine (gcd_any ((o_p4.num l_p4).below hb26) (o_p5.num l_p5) (by omega) (by omega)).mono ?_
  rintro e w27 ⟨A_g5, n_g5, c_g5, rfl, o_g5, hb27, l_g5⟩
  refine ⟨_, rfl, Grow.of_below hb27, ?_⟩
  (refine ord_norm (fun K hK => ?_); go_simp; refine hK _ ?_; clear hK K)
  (refine ord_call (by rfl) (fun K hK => ?_); go_simp; refine hK _ _ ?_; clear hK K)
  refine (times5_any ((((((((((((((((((((((((((((((((HNK.out.below HZ.out.1).below (Below.refl _ _).drew).below hb1).below hb2).below hb3).below hb4).below hb5).below hb6).below (Below.refl _ _).drew).below hb7).below hb8).below hb9).below hb10).below hb11).below hb12).below (Below.refl _ _).drew).below hb13).below hb14).below hb15).below hb16).below hb17).below hb18).below hb19).below hb20).below hb21).below hb22).below hb23).below hb24).below (Below.refl _ _).drew).below hb25).below hb26).below hb27) ((((((((((((((((((((((((((((o_g.num l_g).below hb4).below hb5).below hb6).below (Below.refl _ _).drew).below hb7).below hb8).below hb9).below hb10).below hb11).below hb12).below (Below.refl _ _).drew).below hb13).below hb14).below hb15).below hb16).below hb17).below hb18).below hb19).below hb20).below hb21).below hb22).below hb23).below hb24).below (Below.refl _ _).drew).below hb25).below hb26).below hb27) (by omega) (by omega)).mono ?_
  rintro e w28 ⟨A_p6, n_p6, c_p6, rfl, o_p6, hb28, l_p6⟩
  refine ⟨_, rfl, Grow.of_below hb28, ?_⟩
  (refine ord_norm (fun K hK => ?_); go_simp; refine hK _ ?_; clear hK K)
  (refine ord_call (by rfl) (fun K hK => ?_); go_simp; refine hK _ _ ?_; clear hK K)
  refine (same5k_any (o_g5.rd.below hb28) o_p6.rd E5.out (by omega)).mono ?_
  rintro e w29 ⟨rfl, hb29⟩
  refine ⟨_, rfl, Grow.of_below hb29, ?_⟩
  (refine ord_norm (fun K hK => ?_); go_simp; refine hK _ ?_; clear hK K)
  repeat (refine ord_pas (by rfl) (fun K hK => ?_); go_simp; refine hK _ _ (fun w' hw' => (by first | (go_simp; done) | (go_simp; intro hh; cases hh))) ?_; clear hK K)
  refine ord_nil ?_
  clear g_f0 e_f0 g_f1 e_f1 g_f2 e_f2
  clear o_p4 o_p5 o_g5 o_p6
  have e3 := ((((((((((((((((((((((((((((((((((At.of (HZ.out.2 3 _ rfl)).below (Below.refl _ _).drew).below hb1).below hb2).below hb3).below hb4).below hb5).below hb6).below (Below.refl _ _).drew).below hb7).below hb8).below hb9).below hb10).below hb11).below hb12).below (Below.refl _ _).drew).below hb13).below hb14).below hb15).below hb16).below hb17).below hb18).below hb19).below hb20).below hb21).below hb22).below hb23).below hb24).below (Below.refl _ _).drew).below hb25).below hb26).below hb27).below hb28).below hb29).1
  have HPX := Lib.hid (And.intro (bt (bt (bt (bt (bt (bt (bt (bt (bt (bt (bt (bt (bt (bt (bt (bt (bt (bt (bt (bt (bt (bt (bt (bt (bt (bt (bt (bt (bt (bt (bt (bt (bt HZ.out.1 (Below.refl _ _).drew) hb1) hb2) hb3) hb4) hb5) hb6) (Below.refl _ _).drew) hb7) hb8) hb9) hb10) hb11) hb12) (Below.refl _ _).drew) hb13) hb14) hb15) hb16) hb17) hb18) hb19) hb20) hb21) hb22) hb23) hb24) (Below.refl _ _).drew) hb25) hb26) hb27) hb28) hb29) (And.intro ((((((((((((((((((((((((((((((((((At.of (HZ.out.2 3 _ rfl)).below (Below.refl _ _).drew).below hb1).below hb2).below hb3).below hb4).below hb5).below hb6).below (Below.refl _ _).drew).below hb7).below hb8).below hb9).below hb10).below hb11).below hb12).below (Below.refl _ _).drew).below hb13).below hb14).below hb15).below hb16).below hb17).below hb18).below hb19).below hb20).below hb21).below hb22).below hb23).below hb24).below (Below.refl _ _).drew).below hb25).below hb26).below hb27).below hb28).below hb29) (((((((((((((((((((((((((((((((((HNL.out.below (Below.refl _ _).drew).below hb1).below hb2).below hb3).below hb4).below hb5).below hb6).below (Below.refl _ _).drew).below hb7).below hb8).below hb9).below hb10).below hb11).below hb12).below (Below.refl _ _).drew).below hb13).below hb14).below hb15).below hb16).below hb17).below hb18).below hb19).below hb20).below hb21).below hb22).below hb23).below hb24).below (Below.refl _ _).drew).below hb25).below hb26).below hb27).below hb28).below hb29)))
  go_wp2_with fail
  refine (copies05_any (((((((((((((((((((((((((((((((((HNL.out.below (Below.refl _ _).drew).below hb1).below hb2).below hb3).below hb4).below hb5).below hb6).below (Below.refl _ _).drew).below hb7).below hb8).below hb9).below hb10).below hb11).below hb12).below (Below.refl _ _).drew).below hb13).below hb14).below hb15).below hb16).below hb17).below hb18).below hb19).below hb20).below hb21).below hb22).below hb23).below hb24).below (Below.refl _ _).drew).below hb25).below hb26).below hb27).below hb28).below hb29) (by omega) (fun i => Nat.le_trans (nth_replicate_le _ _ _) (by omega))).mono ?_
  rintro e w30 ⟨A_tn, c_tn, rfl, o_tn, hb30⟩
  clear e3
  obtain ⟨vs0, hE, hM⟩ := o_tn.entries HLL.out.1
  generalize mval w30 = f at hE hM
  have HST := Lib.hid (And.intro hE hb30)
  have HM := Lib.hid hM
  clear hE hM o_tn
  obtain ⟨hf2, hh2⟩ : ∃ hf2, hf2 = nL / 2 := ⟨_, rfl⟩
  have e2 := lay (show (nL : Int) / 2 = (hf2 : Int) by omega)
  have e2b := lay (show (nL : Int).tdiv 2 = (hf2 : Int) by rw [Int.tdiv_eq_ediv_of_nonneg (by omega)]; omega)
  have hh3 : 2 * hf2 ≤ nL := by omega
  clear hh2
  go_wp2
  go_loopw [10] (fun iv wr => ∃ (j : Nat) (vs : List Value), Hid (vs.Perm vs0 ∧ OwnE 56 23 w29.heap.size wr A_tn nL c_tn vs f ∧ Below w29.heap.size w29 wr) ∧ j ≤ hf2 ∧ iv = .int .i64 (j : Int)) (fun iv _ => hf2 - (intOf iv).toNat)
  case atStart => exact ⟨0, vs0, ⟨List.Perm.refl _, HST.out.1, HST.out.2⟩, Nat.zero_le _, rfl⟩
  case round =>
    obtain ⟨j, vs, hI, hj, rfl⟩ := hrel
    by_cases hlt : j < hf2
    · obtain ⟨kk, hkk⟩ : ∃ kk, kk = nL - 1 - j := ⟨_, rfl⟩
      have ek := lay (show (nL : Int) - 1 - (j : Int) = (kk : Int) by omega)
      have hjk : j ≠ kk := by omega
      have hkn : kk < nL := by omega
      have hjn : j < nL := by omega
      have hvl : vs.length = nL := by have := hI.out.2.1.2.1.1; omega
      obtain ⟨gg, _, hfm, hgB, hgl⟩ := World.ownsRow.form hI.out.2.1.2.1 (by omega)
      injection hfm with hfm _ hcq
      clear hcq
      subst hfm
      obtain ⟨P1, m1, r1, _, hu1, hx1⟩ := hI.out.2.1.2.2 (vs[j]'(by omega)) (List.getElem_mem _)
      obtain ⟨P2, m2, r2, _, hu2, hx2⟩ := hI.out.2.1.2.2 (vs[kk]'(by omega)) (List.getElem_mem _)
      have cj : Cel wr ⟨gg, j, none⟩ (.slice P1 m1 r1) := ⟨by rw [World.ownsRow.cellAt hI.out.2.1.2.1 j (by omega), List.getElem?_eq_getElem (by omega), hu1], World.ownsRow.frozenAt hI.out.2.1.2.1 j, hgl⟩
      have ck : Cel wr ⟨gg, kk, none⟩ (.slice P2 m2 r2) := ⟨by rw [World.ownsRow.cellAt hI.out.2.1.2.1 kk (by omega), List.getElem?_eq_getElem (by omega), hu2], World.ownsRow.frozenAt hI.out.2.1.2.1 kk, hgl⟩
      have HSW : Hid ((((vs.set j (.slice P2 m2 r2)).set kk (.slice P1 m1 r1)).Perm vs0) ∧ OwnE 56 23 w29.heap.size ((wr.drew.setCell ⟨gg, j, none⟩ (.slice P2 m2 r2)).setCell ⟨gg, kk, none⟩ (.slice P1 m1 r1)) (some ⟨gg, 0, none⟩) nL c_tn ((vs.set j (.slice P2 m2 r2)).set kk (.slice P1 m1 r1)) f ∧ Below w29.heap.size w29 ((wr.drew.setCell ⟨gg, j, none⟩ (.slice P2 m2 r2)).setCell ⟨gg, kk, none⟩ (.slice P1 m1 r1))) := by
        refine ⟨List.Perm.trans ?_ hI.out.1, ?_, ?_⟩
        · rw [← hu1, ← hu2]; exact List.set_set_perm (by omega) (by omega)
        · exact OwnE.swap (w := wr.drew) hI.out.2.1 (by rw [← hu2]; exact List.getElem_mem _) (by rw [← hu1]; exact List.getElem_mem _)
        · exact ((hI.out.2.2.drew).setCell (p := ⟨gg, j, none⟩) hgB _).setCell (p := ⟨gg, kk, none⟩) hgB _
      have CK2 : Hid (Cel (wr.drew.setCell ⟨gg, j, none⟩ (.slice P2 m2 r2)) ⟨gg, kk, none⟩ (.slice P2 m2 r2)) := (Cel.drew ck).set (by intro e; injection e with _ e2; omega)
      have HCJ := Lib.hid cj
      have HCK := Lib.hid ck
      clear hx1 hx2 hu1 hu2 hvl cj ck hkk
      have i0 : (0 : Int) ≤ (j : Int) := by omega
      have i1 : (j : Int) < (nL : Int) := by omega
      have i2 : (0 : Int) ≤ (kk : Int) := by omega
      have i3 : (kk : Int) < (nL : Int) := by omega
      go_wp2_with fail
      have e_cj := HCJ.out.1
      have e_ck := HCK.out.1
      have g_cj := At.grow (At.of HCJ.out)
      have g_ck := At.grow (At.of HCK.out)
      refine wp_region_stores [(0, 0), (0, 1), (3, 2), (3, 3), (0, 4), (0, 5), (0, 6), (0, 7), (3, 8), (3, 9), (3, 10), (0, 11), (0, 12), (2, 13), (0, 14), (2, 15)] (by kernel_rfl) (by kernel_rfl) ?_
      repeat (first | (refine sord_pas (by rfl) (fun K hK => ?_); go_simp; refine hK _ _ (fun w' hw' => (by first | (go_simp; done) | (go_simp; intro hh; cases hh))) ?_; clear hK K) | (refine sord_pasT (by rfl) (fun K hK => ?_); go_simp; refine hK _ _ (fun w' hw' => (by first | (go_simp; done) | (go_simp; intro hh; cases hh))) ?_; clear hK K))
      clear g_cj g_ck e_cj e_ck
      obtain ⟨z0a, z0b, z0c⟩ := Cel.drew HCJ.out
      (refine sord_store (by rfl) (fun K hK => ?_); go_simp; refine hK _ _ ?_; clear hK K)
      repeat (first | (refine sord_pas (by rfl) (fun K hK => ?_); go_simp; refine hK _ _ (fun w' hw' => (by first | (go_simp; done) | (go_simp; intro hh; cases hh))) ?_; clear hK K) | (refine sord_pasT (by rfl) (fun K hK => ?_); go_simp; refine hK _ _ (fun w' hw' => (by first | (go_simp; done) | (go_simp; intro hh; cases hh))) ?_; clear hK K))
      clear z0a z0b z0c
      obtain ⟨z1a, z1b, z1c⟩ := HCK.out
      (refine sord_store (by rfl) (fun K hK => ?_); go_simp; refine hK _ _ ?_; clear hK K)
      refine sord_nil ?_
      clear z1a z1b z1c
      go_wp2
      go_roundw
      case rel => exact ⟨j + 1, _, HSW, by omega, by go_num⟩
      case measure => simp [intOf]; omega
    · have hd : ¬ (j : Int) < (hf2 : Int) := by omega
      have HTN := Lib.hid hI.out
      have EQ1 : Hid (dg W (gall (vs.map f)) = dg W (gall xs)) := by show _ = _; rw [gall_perm (hI.out.1.map f), HM.out]
      have EQ2 : Hid (dg W (llcm (vs.map f)) = dg W (llcm xs)) := by show _ = _; rw [llcm_perm (hI.out.1.map f), HM.out]
      have HLT := Lib.hid hI.out.2.1.nums.1
      clear hI hlt hj
      obtain ⟨wq, rfl⟩ : ∃ wq : World, wq = wr := ⟨_, rfl⟩
      have e3 := (HPX.out.2.1.below HTN.out.2.2).1
      go_wp2_with fail
      refine (copies05_any (HPX.out.2.2.below HTN.out.2.2) (by omega) (fun i => Nat.le_trans (nth_replicate_le _ _ _) (by omega))).mono ?_
      rintro e w1 ⟨A_c0, c_c0, rfl, o_c0, hb1⟩
      go_wp2_with fail
      refine (all_any (OwnR.nums o_c0 HLL.out.1 HLL.out.2.1 (fun _ _ h => h)) (by omega) (by omega)).mono ?_
      rintro e w2 ⟨A_all, n_all, c_all, rfl, o_all, hb2, l_all⟩
      clear e3 hd
      have hal : n_all ≤ 600 := by omega
      have HPY := Lib.hid (And.intro (bt (bt (bt HPX.out.1 HTN.out.2.2) hb1) hb2) (And.intro (((HPX.out.2.1.below HTN.out.2.2).below hb1).below hb2) (And.intro (((HPX.out.2.2.below HTN.out.2.2).below hb1).below hb2) (And.intro o_all.rd (And.intro (o_all.num hal) (HTN.out.2.1.below (bt hb1 hb2)))))))
      clear o_c0 o_all
      go_wp2
      go_loopw [13] (fun iv wr => ∃ i : Nat, Hid (Below w2.heap.size w2 wr) ∧ i ≤ nL ∧ iv = .int .i64 (i : Int)) (fun iv _ => nL - (intOf iv).toNat)
      case atStart => exact ⟨0, Below.refl _ _, Nat.zero_le _, rfl⟩
      case round =>
        obtain ⟨i, hI, hi, rfl⟩ := hrel
        have hcc := (HPY.out.2.1.below hI.out).1
        by_cases hlt : i < nL
        · have i0 : (0 : Int) ≤ (i : Int) := by omega
          have i1 : (i : Int) < (nL : Int) := by omega
          by_cases hz : gall xs = 0
          · have CZ2 : Hid (∀ (w : World) (v : Value), Num w v (gall xs) 600 → Calls Try.prog 23 #[v] w (Keeps (.bool true) w)) := fun w v h => by
              have := zero5_any h (by omega)
              rwa [decide_eq_true hz] at this
            clear hz
            go_wp2_with fail
            refine (CZ2.out _ _ (HPY.out.2.2.2.2.1.below hI.out)).mono ?_
            rintro e w1 ⟨rfl, hb1⟩
            go_wp2_with fail
            refine wp_region_grow none [(true, 0), (true, 3), (false, 1), (false, 2), (false, 4), (true, 5), (true, 6), (true, 9), (true, 10), (false, 7), (false, 8), (false, 11), (false, 12), (false, 13), (true, 14), (true, 15)] (by kernel_rfl) (by kernel_rfl) ?_
            repeat (refine ord_pas (by rfl) (fun K hK => ?_); go_simp; refine hK _ _ (fun w' hw' => (by first | (go_simp; done) | (go_simp; intro hh; cases hh))) ?_; clear hK K)
            (refine ord_call (by rfl) (fun K hK => ?_); go_simp; refine hK _ _ ?_; clear hK K)
            refine (copies05_any (((HPY.out.2.2.2.2.2.below hI.out).nums.below hb1).below (Below.refl _ _).drew) (by omega) (fun i => Nat.le_trans (nth_replicate_le _ _ _) (by omega))).mono ?_
            rintro e w2 ⟨A_c1, c_c1, rfl, o_c1, hb2⟩
            refine ⟨_, rfl, Grow.of_below hb2, ?_⟩
            (refine ord_norm (fun K hK => ?_); go_simp; refine hK _ ?_; clear hK K)
            (refine ord_call (by rfl) (fun K hK => ?_); go_simp; refine hK _ _ ?_; clear hK K)
            refine (all_any (OwnR.nums o_c1 HLT.out.1 HLT.out.2.1 (fun _ _ h => h)) (by omega) (by omega)).mono ?_
            rintro e w3 ⟨A_p, n_p, c_p, rfl, o_p, hb3, l_p⟩
            refine ⟨_, rfl, Grow.of_below hb3, ?_⟩
            (refine ord_norm (fun K hK => ?_); go_simp; refine hK _ ?_; clear hK K)
            (refine ord_call (by rfl) (fun K hK => ?_); go_simp; refine hK _ _ ?_; clear hK K)
            refine (same5k_any o_p.rd (((((HPY.out.2.2.2.1.below hI.out).below hb1).below (Below.refl _ _).drew).below hb2).below hb3) EQ1.out (by omega)).mono ?_
            rintro e w4 ⟨rfl, hb4⟩
            refine ⟨_, rfl, Grow.of_below hb4, ?_⟩
            (refine ord_norm (fun K hK => ?_); go_simp; refine hK _ ?_; clear hK K)
            have em_f3 := ((((((HPY.out.2.1.below hI.out).below hb1).below (Below.refl _ _).drew).below hb2).below hb3).below hb4).1
            have gm_f3 := At.grow0 ((((((HPY.out.2.1.below hI.out).below hb1).below (Below.refl _ _).drew).below hb2).below hb3).below hb4)
            repeat (refine ord_pas (by rfl) (fun K hK => ?_); go_simp; refine hK _ _ (fun w' hw' => (by first | (go_simp; done) | (go_simp; intro hh; cases hh))) ?_; clear hK K)
            clear gm_f3 em_f3
            (refine ord_call (by rfl) (fun K hK => ?_); go_simp; refine hK _ _ ?_; clear hK K)
            refine (copies05_any ((((((HPY.out.2.2.2.2.2.below hI.out).nums.below hb1).below (Below.refl _ _).drew).below hb2).below hb3).below hb4) (by omega) (fun i => Nat.le_trans (nth_replicate_le _ _ _) (by omega))).mono ?_
            rintro e w5 ⟨A_c2, c_c2, rfl, o_c2, hb5⟩
            refine ⟨_, rfl, Grow.of_below hb5, ?_⟩
            (refine ord_norm (fun K hK => ?_); go_simp; refine hK _ ?_; clear hK K)
            (refine ord_call (by rfl) (fun K hK => ?_); go_simp; refine hK _ _ ?_; clear hK K)
            refine (galllcm_any (OwnR.nums o_c2 HLT.out.1 HLT.out.2.1 (fun _ _ h => h)) (by omega) (fun i hi => by rw [nth_replicate hi]; omega) (by omega)).mono ?_
            rintro e w6 ⟨A_r, n_r, c_r, rfl, o_r, hb6, l_r⟩
            refine ⟨_, rfl, Grow.of_below hb6, ?_⟩
            (refine ord_norm (fun K hK => ?_); go_simp; refine hK _ ?_; clear hK K)
            (refine ord_call (by rfl) (fun K hK => ?_); go_simp; refine hK _ _ ?_; clear hK K)
            refine (copies05_any ((((((((HPY.out.2.2.1.below hI.out).below hb1).below (Below.refl _ _).drew).below hb2).below hb3).below hb4).below hb5).below hb6) (by omega) (fun i => Nat.le_trans (nth_replicate_le _ _ _) (by omega))).mono ?_
            rintro e w7 ⟨A_c3, c_c3, rfl, o_c3, hb7⟩
            refine ⟨_, rfl, Grow.of_below hb7, ?_⟩
            (refine ord_norm (fun K hK => ?_); go_simp; refine hK _ ?_; clear hK K)
            (refine ord_call (by rfl) (fun K hK => ?_); go_simp; refine hK _ _ ?_; clear hK K)
            refine (galllcm_any (OwnR.nums o_c3 HLL.out.1 HLL.out.2.1 (fun _ _ h => h)) (by omega) (fun i hi => by rw [nth_replicate hi]; omega) (by omega)).mono ?_
            rintro e w8 ⟨A_s, n_s, c_s, rfl, o_s, hb8, l_s⟩
            refine ⟨_, rfl, Grow.of_below hb8, ?_⟩
            (refine ord_norm (fun K hK => ?_); go_simp; refine hK _ ?_; clear hK K)
            (refine ord_call (by rfl) (fun K hK => ?_); go_simp; refine hK _ _ ?_; clear hK K)
            refine (same5k_any ((o_r.rd.below hb7).below hb8) o_s.rd EQ2.out (by omega)).mono ?_
            rintro e w9 ⟨rfl, hb9⟩
            refine ⟨_, rfl, Grow.of_below hb9, ?_⟩
            (refine ord_norm (fun K hK => ?_); go_simp; refine hK _ ?_; clear hK K)
            repeat (refine ord_pas (by rfl) (fun K hK => ?_); go_simp; refine hK _ _ (fun w' hw' => (by first | (go_simp; done) | (go_simp; intro hh; cases hh))) ?_; clear hK K)
            refine ord_nil ?_
            go_wp2
            go_ret
            exact ⟨rfl, (bt (bt (bt (bt (bt (bt (bt (bt (bt (bt (bt HPY.out.1 hI.out) hb1) (Below.refl _ _).drew) hb2) hb3) hb4) hb5) hb6) hb7) hb8) hb9)⟩
          · have CZ2 : Hid (∀ (w : World) (v : Value), Num w v (gall xs) 600 → Calls Try.prog 23 #[v] w (Keeps (.bool false) w)) := fun w v h => by
              have := zero5_any h (by omega)
              rwa [decide_eq_false hz] at this
            have CZ3 : Hid (∀ (w : World) (v : Value), Num w v (nth xs i % gall xs) 600 → Calls Try.prog 23 #[v] w (Keeps (.bool true) w)) := fun w v h => by
              have := zero5_any h (by omega)
              rwa [decide_eq_true (Nat.mod_eq_zero_of_dvd (gall_dvd (by rw [HLL.out.1]; exact hlt)))] at this
            have HZ0 : Hid (0 < gall xs) := Nat.pos_of_ne_zero hz
            clear hz
            obtain ⟨b3, off3, v3, ea3, hb3, hca3, hv3⟩ := (HPY.out.2.2.1.below hI.out).at hlt
            rw [nth_replicate hlt] at hv3
            have HV3 := Lib.hid hv3
            have HC3 := Lib.hid (show At wr ⟨b3, off3 + i, none⟩ v3 from ⟨hca3, hb3⟩)
            subst ea3
            obtain ⟨_, _, _, _, rfl, _⟩ := id hv3
            clear hca3 hb3 hv3
            go_wp2_with fail
            refine (CZ2.out _ _ (HPY.out.2.2.2.2.1.below hI.out)).mono ?_
            rintro e w1 ⟨rfl, hb1⟩
            clear hcc
            have hc3 := ((HPY.out.2.1.below hI.out).below hb1).1
            have hc4 := (HC3.out.below hb1).1
            go_wp2_with fail
            refine (quo5_any (HV3.out.below hb1) ((HPY.out.2.2.2.2.1.below hI.out).below hb1) HZ0.out (by omega) (by omega) (by omega) (by omega)).mono ?_
            rintro e w2 ⟨A_q3, n_q3, c_q3, A_r3, n_r3, c_r3, rfl, o_q3, o_r3, hb2, l_q3, l_r3⟩
            clear hc3 hc4
            go_wp2_with fail
            refine (CZ3.out _ _ ((o_r3.num l_r3).mono (by omega))).mono ?_
            rintro e w3 ⟨rfl, hb3⟩
            have HNX := Lib.hid (bt (bt hb1 hb2) hb3)
            clear o_q3 o_r3
            go_wp2
            go_roundw
            case rel => exact ⟨i + 1, bt hI.out HNX.out, by omega, by go_num⟩
            case measure => simp [intOf]; omega
        · have hd2 : ¬ (i : Int) < (nL : Int) := by omega
          go_wp2_with fail
          refine wp_region_grow none [(true, 0), (true, 3), (false, 1), (false, 2), (false, 4), (true, 5), (true, 6), (true, 9), (true, 10), (false, 7), (false, 8), (false, 11), (false, 12), (false, 13), (true, 14), (true, 15)] (by kernel_rfl) (by kernel_rfl) ?_
          repeat (refine ord_pas (by rfl) (fun K hK => ?_); go_simp; refine hK _ _ (fun w' hw' => (by first | (go_simp; done) | (go_simp; intro hh; cases hh))) ?_; clear hK K)
          (refine ord_call (by rfl) (fun K hK => ?_); go_simp; refine hK _ _ ?_; clear hK K)
          refine (copies05_any ((HPY.out.2.2.2.2.2.below hI.out).nums.below (Below.refl _ _).drew) (by omega) (fun i => Nat.le_trans (nth_replicate_le _ _ _) (by omega))).mono ?_
          rintro e w1 ⟨A_c1, c_c1, rfl, o_c1, hb1⟩
          refine ⟨_, rfl, Grow.of_below hb1, ?_⟩
          (refine ord_norm (fun K hK => ?_); go_simp; refine hK _ ?_; clear hK K)
          (refine ord_call (by rfl) (fun K hK => ?_); go_simp; refine hK _ _ ?_; clear hK K)
          refine (all_any (OwnR.nums o_c1 HLT.out.1 HLT.out.2.1 (fun _ _ h => h)) (by omega) (by omega)).mono ?_
          rintro e w2 ⟨A_p, n_p, c_p, rfl, o_p, hb2, l_p⟩
          refine ⟨_, rfl, Grow.of_below hb2, ?_⟩
          (refine ord_norm (fun K hK => ?_); go_simp; refine hK _ ?_; clear hK K)
          (refine ord_call (by rfl) (fun K hK => ?_); go_simp; refine hK _ _ ?_; clear hK K)
          refine (same5k_any o_p.rd ((((HPY.out.2.2.2.1.below hI.out).below (Below.refl _ _).drew).below hb1).below hb2) EQ1.out (by omega)).mono ?_
          rintro e w3 ⟨rfl, hb3⟩
          refine ⟨_, rfl, Grow.of_below hb3, ?_⟩
          (refine ord_norm (fun K hK => ?_); go_simp; refine hK _ ?_; clear hK K)
          have em_f3 := (((((HPY.out.2.1.below hI.out).below (Below.refl _ _).drew).below hb1).below hb2).below hb3).1
          have gm_f3 := At.grow0 (((((HPY.out.2.1.below hI.out).below (Below.refl _ _).drew).below hb1).below hb2).below hb3)
          repeat (refine ord_pas (by rfl) (fun K hK => ?_); go_simp; refine hK _ _ (fun w' hw' => (by first | (go_simp; done) | (go_simp; intro hh; cases hh))) ?_; clear hK K)
          clear gm_f3 em_f3
          (refine ord_call (by rfl) (fun K hK => ?_); go_simp; refine hK _ _ ?_; clear hK K)
          refine (copies05_any (((((HPY.out.2.2.2.2.2.below hI.out).nums.below (Below.refl _ _).drew).below hb1).below hb2).below hb3) (by omega) (fun i => Nat.le_trans (nth_replicate_le _ _ _) (by omega))).mono ?_
          rintro e w4 ⟨A_c2, c_c2, rfl, o_c2, hb4⟩
          refine ⟨_, rfl, Grow.of_below hb4, ?_⟩
          (refine ord_norm (fun K hK => ?_); go_simp; refine hK _ ?_; clear hK K)
          (refine ord_call (by rfl) (fun K hK => ?_); go_simp; refine hK _ _ ?_; clear hK K)
          refine (galllcm_any (OwnR.nums o_c2 HLT.out.1 HLT.out.2.1 (fun _ _ h => h)) (by omega) (fun i hi => by rw [nth_replicate hi]; omega) (by omega)).mono ?_
          rintro e w5 ⟨A_r, n_r, c_r, rfl, o_r, hb5, l_r⟩
          refine ⟨_, rfl, Grow.of_below hb5, ?_⟩
          (refine ord_norm (fun K hK => ?_); go_simp; refine hK _ ?_; clear hK K)
          (refine ord_call (by rfl) (fun K hK => ?_); go_simp; refine hK _ _ ?_; clear hK K)
          refine (copies05_any (((((((HPY.out.2.2.1.below hI.out).below (Below.refl _ _).drew).below hb1).below hb2).below hb3).below hb4).below hb5) (by omega) (fun i => Nat.le_trans (nth_replicate_le _ _ _) (by omega))).mono ?_
          rintro e w6 ⟨A_c3, c_c3, rfl, o_c3, hb6⟩
          refine ⟨_, rfl, Grow.of_below hb6, ?_⟩
          (refine ord_norm (fun K hK => ?_); go_simp; refine hK _ ?_; clear hK K)
          (refine ord_call (by rfl) (fun K hK => ?_); go_simp; refine hK _ _ ?_; clear hK K)
          refine (galllcm_any (OwnR.nums o_c3 HLL.out.1 HLL.out.2.1 (fun _ _ h => h)) (by omega) (fun i hi => by rw [nth_replicate hi]; omega) (by omega)).mono ?_
          rintro e w7 ⟨A_s, n_s, c_s, rfl, o_s, hb7, l_s⟩
          refine ⟨_, rfl, Grow.of_below hb7, ?_⟩
          (refine ord_norm (fun K hK => ?_); go_simp; refine hK _ ?_; clear hK K)
          (refine ord_call (by rfl) (fun K hK => ?_); go_simp; refine hK _ _ ?_; clear hK K)
          refine (same5k_any ((o_r.rd.below hb6).below hb7) o_s.rd EQ2.out (by omega)).mono ?_
          rintro e w8 ⟨rfl, hb8⟩
          refine ⟨_, rfl, Grow.of_below hb8, ?_⟩
          (refine ord_norm (fun K hK => ?_); go_simp; refine hK _ ?_; clear hK K)
          repeat (refine ord_pas (by rfl) (fun K hK => ?_); go_simp; refine hK _ _ (fun w' hw' => (by first | (go_simp; done) | (go_simp; intro hh; cases hh))) ?_; clear hK K)
          refine ord_nil ?_
          go_wp2
          go_ret
          exact ⟨rfl, (bt (bt (bt (bt (bt (bt (bt (bt (bt (bt HPY.out.1 hI.out) (Below.refl _ _).drew) hb1) hb2) hb3) hb4) hb5) hb6) hb7) hb8)⟩

set_option maxHeartbeats 16000000 in
set_option maxRecDepth 100000 in
theorem gcdLaws_p {vA vB vK : Value} {A3 A4 : Option Addr} {n3 c3 n4 c4 a b k LA LB LK : Nat} {N : Int} {xs ys ls ms : List Nat} {w : World} (hA : Num w vA a LA) (hB : Num w vB b LB) (hK : Num w vK k LK) (h3 : Nums w A3 n3 c3 xs ls) (h4 : Nums w A4 n4 c4 ys ms) (hgz : ¬ Nat.gcd (a % W ^ 30) (b % W ^ 30) = 0) :
    Calls Try.prog 4 #[.agg #[vA, vB, vK, .slice A3 n3 c3, .slice A4 n4 c4, .int .i64 N]] w (Keeps (.bool true) w) := by
  have HGG := Lib.hid hgz
  clear hgz
  have HA := Lib.hid hA
  have HB := Lib.hid hB
  have HK := Lib.hid hK
  have HS3 := Lib.hid h3
  have HS4 := Lib.hid h4
  obtain ⟨pA, nA, cA, _, rfl, _⟩ := id hA
  obtain ⟨pB, nB, cB, _, rfl, _⟩ := id hB
  obtain ⟨pK, nK, cK, _, rfl, _⟩ := id hK
  clear hA hB hK h3 h4
  go_enter Try.func4, Try.ntmps4
  go_wp2_with fail
  refine (fixed05_any).mono ?_
  rintro e w1 ⟨rfl, hb1⟩
  obtain ⟨z0a, z0b, z0c⟩ := ((Cel.box (i := 0) (v := .slice pA nA cA) (t := 26) (b := w.heap.size) w #[.slice pA nA cA, .slice pB nB cB, .slice pK nK cK, .slice A3 n3 c3, .slice A4 n4 c4, .int .i64 N] rfl (by simp)).below hb1)
  obtain ⟨z1a, z1b, z1c⟩ := ((Cel.box (i := 1) (v := .slice pB nB cB) (t := 26) (b := w.heap.size) w #[.slice pA nA cA, .slice pB nB cB, .slice pK nK cK, .slice A3 n3 c3, .slice A4 n4 c4, .int .i64 N] rfl (by simp)).below hb1)
  obtain ⟨z2a, z2b, z2c⟩ := ((Cel.box (i := 2) (v := .slice pK nK cK) (t := 26) (b := w.heap.size) w #[.slice pA nA cA, .slice pB nB cB, .slice pK nK cK, .slice A3 n3 c3, .slice A4 n4 c4, .int .i64 N] rfl (by simp)).below hb1)
  obtain ⟨z3a, z3b, z3c⟩ := ((Cel.box (i := 3) (v := .slice A3 n3 c3) (t := 26) (b := w.heap.size) w #[.slice pA nA cA, .slice pB nB cB, .slice pK nK cK, .slice A3 n3 c3, .slice A4 n4 c4, .int .i64 N] rfl (by simp)).below hb1)
  obtain ⟨z4a, z4b, z4c⟩ := ((Cel.box (i := 4) (v := .slice A4 n4 c4) (t := 26) (b := w.heap.size) w #[.slice pA nA cA, .slice pB nB cB, .slice pK nK cK, .slice A3 n3 c3, .slice A4 n4 c4, .int .i64 N] rfl (by simp)).below hb1)
  obtain ⟨z5a, z5b, z5c⟩ := ((Cel.box (i := 5) (v := .int .i64 N) (t := 26) (b := w.heap.size) w #[.slice pA nA cA, .slice pB nB cB, .slice pK nK cK, .slice A3 n3 c3, .slice A4 n4 c4, .int .i64 N] rfl (by simp)).below hb1)
  go_wp2_with fail
  refine (less05_any (bt ((Below.refl _ _).alloc (Nat.le_refl _) (.cells #[.slice pA nA cA, .slice pB nB cB, .slice pK nK cK, .slice A3 n3 c3, .slice A4 n4 c4, .int .i64 N] 26)) hb1) HA.out HB.out HK.out HS3.out HS4.out).mono ?_
  rintro e wl ⟨uA, uB, uK, pL, nL, cL, vsL, pM, nM, cM, vsM, rfl, ⟨hA, hB, hK⟩, ⟨hnL, oL, vL⟩, ⟨hnM, oM, vM⟩, hbl⟩
  have HOL := Lib.hid (And.intro oL (And.intro oM z0c))
  clear oL oM
  have HLB : Hid (LawB w #[.slice pA nA cA, .slice pB nB cB, .slice pK nK cK, .slice A3 n3 c3, .slice A4 n4 c4, .int .i64 N] wl) := by
    refine ⟨(bt (bt ((Below.refl _ _).alloc (Nat.le_refl _) (.cells #[.slice pA nA cA, .slice pB nB cB, .slice pK nK cK, .slice A3 n3 c3, .slice A4 n4 c4, .int .i64 N] 26)) hb1) hbl), fun i v hv => ?_⟩
    rcases six hv with ⟨rfl, rfl⟩ | ⟨rfl, rfl⟩ | ⟨rfl, rfl⟩ | ⟨rfl, rfl⟩ | ⟨rfl, rfl⟩ | ⟨rfl, rfl⟩
    · exact (((Cel.box (i := 0) (v := .slice pA nA cA) (t := 26) (b := w.heap.size) w #[.slice pA nA cA, .slice pB nB cB, .slice pK nK cK, .slice A3 n3 c3, .slice A4 n4 c4, .int .i64 N] rfl (by simp)).below hb1).below hbl)
    · exact (((Cel.box (i := 1) (v := .slice pB nB cB) (t := 26) (b := w.heap.size) w #[.slice pA nA cA, .slice pB nB cB, .slice pK nK cK, .slice A3 n3 c3, .slice A4 n4 c4, .int .i64 N] rfl (by simp)).below hb1).below hbl)
    · exact (((Cel.box (i := 2) (v := .slice pK nK cK) (t := 26) (b := w.heap.size) w #[.slice pA nA cA, .slice pB nB cB, .slice pK nK cK, .slice A3 n3 c3, .slice A4 n4 c4, .int .i64 N] rfl (by simp)).below hb1).below hbl)
    · exact (((Cel.box (i := 3) (v := .slice A3 n3 c3) (t := 26) (b := w.heap.size) w #[.slice pA nA cA, .slice pB nB cB, .slice pK nK cK, .slice A3 n3 c3, .slice A4 n4 c4, .int .i64 N] rfl (by simp)).below hb1).below hbl)
    · exact (((Cel.box (i := 4) (v := .slice A4 n4 c4) (t := 26) (b := w.heap.size) w #[.slice pA nA cA, .slice pB nB cB, .slice pK nK cK, .slice A3 n3 c3, .slice A4 n4 c4, .int .i64 N] rfl (by simp)).below hb1).below hbl)
    · exact (((Cel.box (i := 5) (v := .int .i64 N) (t := 26) (b := w.heap.size) w #[.slice pA nA cA, .slice pB nB cB, .slice pK nK cK, .slice A3 n3 c3, .slice A4 n4 c4, .int .i64 N] rfl (by simp)).below hb1).below hbl)
  clear z0a z0b z0c z1a z1b z1c z2a z2b z2c z3a z3b z3c z4a z4b z4c z5a z5b z5c
  obtain ⟨z0a, z0b, z0c⟩ := HLB.out.2 0 _ rfl
  obtain ⟨z1a, z1b, z1c⟩ := HLB.out.2 1 _ rfl
  obtain ⟨z2a, z2b, z2c⟩ := HLB.out.2 2 _ rfl
  obtain ⟨z3a, z3b, z3c⟩ := HLB.out.2 3 _ rfl
  obtain ⟨z4a, z4b, z4c⟩ := HLB.out.2 4 _ rfl
  obtain ⟨z5a, z5b, z5c⟩ := HLB.out.2 5 _ rfl
  obtain ⟨pA', nA', cA', _, rfl, _⟩ := id hA
  obtain ⟨pB', nB', cB', _, rfl, _⟩ := id hB
  obtain ⟨pK', nK', cK', _, rfl, _⟩ := id hK
  generalize a % W ^ 30 = a at *
  generalize b % W ^ 30 = b at *
  generalize k % W ^ 30 = k at *
  have HNA := Lib.hid hA
  have HNB := Lib.hid hB
  have HNK := Lib.hid hK
  have HVL := Lib.hid vL
  have HVM := Lib.hid vM
  clear hA hB hK vL vM
  go_wp2_with fail
  obtain ⟨wz, hwz⟩ : ∃ wz : World, wz = ((((((wl.setCell ⟨w.heap.size, 0, none⟩ (.slice pA' nA' cA')).setCell ⟨w.heap.size, 1, none⟩ (.slice pB' nB' cB')).setCell ⟨w.heap.size, 2, none⟩ (.slice pK' nK' cK')).setCell ⟨w.heap.size, 3, none⟩ (.slice pL nL cL)).setCell ⟨w.heap.size, 4, none⟩ (.slice pM nM cM)).setCell ⟨w.heap.size, 5, none⟩ (.int .i64 N)) := ⟨_, rfl⟩
  rw [← hwz]
  have HZ : Hid (LawB w #[.slice pA' nA' cA', .slice pB' nB' cB', .slice pK' nK' cK', .slice pL nL cL, .slice pM nM cM, .int .i64 N] wz) := by
    show LawB _ _ _
    rw [hwz]; exact HLB.out.set6
  have HNL : Hid (Nums wz pL nL cL (vsL.map (mval w)) (List.replicate nL 30)) := by
    show Nums _ _ _ _ _ _
    refine HVL.out.nums (B := w.heap.size + 1) (T := 23) ?_ HZ.out.1
    rw [hwz]
    exact ((((((HOL.out.1.mono HOL.out.2.2).set_low (p := ⟨w.heap.size, 0, none⟩) (by simp) _).set_low (p := ⟨w.heap.size, 1, none⟩) (by simp) _).set_low (p := ⟨w.heap.size, 2, none⟩) (by simp) _).set_low (p := ⟨w.heap.size, 3, none⟩) (by simp) _).set_low (p := ⟨w.heap.size, 4, none⟩) (by simp) _).set_low (p := ⟨w.heap.size, 5, none⟩) (by simp) _
  have HNM : Hid (Nums wz pM nM cM (vsM.map (mval w)) (List.replicate nM 30)) := by
    show Nums _ _ _ _ _ _
    refine HVM.out.nums (B := w.heap.size + 1) (T := 23) ?_ HZ.out.1
    rw [hwz]
    exact ((((((HOL.out.2.1.mono HOL.out.2.2).set_low (p := ⟨w.heap.size, 0, none⟩) (by simp) _).set_low (p := ⟨w.heap.size, 1, none⟩) (by simp) _).set_low (p := ⟨w.heap.size, 2, none⟩) (by simp) _).set_low (p := ⟨w.heap.size, 3, none⟩) (by simp) _).set_low (p := ⟨w.heap.size, 4, none⟩) (by simp) _).set_low (p := ⟨w.heap.size, 5, none⟩) (by simp) _
  clear z0a z0b z0c z1a z1b z1c z2a z2b z2c z3a z3b z3c z4a z4b z4c z5a z5b z5c hwz
  generalize vsL.map (mval w) = xs at *
  generalize vsM.map (mval w) = ys at *
  have HLL := Lib.hid HNL.out.1
  have HLM := Lib.hid HNM.out.1
  have hsL : lsum (List.replicate nL 30) ≤ 600 := by rw [lsum_replicate]; omega
  have hsM : lsum (List.replicate nM 30) ≤ 600 := by rw [lsum_replicate]; omega
  have hg0 := HGG.out
  have E1 : Hid (dg W (Nat.gcd a b * Nat.lcm a b) = dg W (a * b)) := by show _ = _; rw [Nat.gcd_mul_lcm]
  have E2 : Hid (dg W (Nat.gcd b a) = dg W (Nat.gcd a b)) := by show _ = _; rw [Nat.gcd_comm]
  have E3 : Hid (dg W (Nat.gcd (a + b) b) = dg W (Nat.gcd a b)) := by show _ = _; rw [Nat.gcd_add_self_left]
  have E4 : Hid (dg W (Nat.gcd a 0) = dg W a) := by show _ = _; rw [Nat.gcd_zero_right]
  have E5 : Hid (dg W (Nat.gcd (k * a) (k * b)) = dg W (k * Nat.gcd a b)) := by show _ = _; rw [Nat.gcd_mul_left]
  have E6 : Hid (Nat.gcd a b ≠ 0 → decide (a % Nat.gcd a b = 0) = true ∧ decide (b % Nat.gcd a b = 0) = true) := fun h =>
    ⟨decide_eq_true (Nat.mod_eq_zero_of_dvd (Nat.gcd_dvd_left a b)), decide_eq_true (Nat.mod_eq_zero_of_dvd (Nat.gcd_dvd_right a b))⟩
  go_wp2_with fail
  have e_f0 := (At.of (HZ.out.2 0 _ rfl)).1
  have g_f0 := At.grow (At.of (HZ.out.2 0 _ rfl))
  have e_f1 := (At.of (HZ.out.2 1 _ rfl)).1
  have g_f1 := At.grow (At.of (HZ.out.2 1 _ rfl))
  refine wp_region_grow none [(true, 0), (true, 1), (true, 3), (true, 4), (true, 7), (true, 8), (true, 10), (true, 11), (false, 2), (false, 5), (false, 6), (false, 9), (false, 12), (false, 13), (true, 14), (true, 15)] (by kernel_rfl) (by kernel_rfl) ?_
  repeat (refine ord_pas (by rfl) (fun K hK => ?_); go_simp; refine hK _ _ (fun w' hw' => (by first | (go_simp; done) | (go_simp; intro hh; cases hh))) ?_; clear hK K)
  (refine ord_call (by rfl) (fun K hK => ?_); go_simp; refine hK _ _ ?_; clear hK K)
  refine (copied05_any ((HNA.out.below HZ.out.1).below (Below.refl _ _).drew) (by omega)).mono ?_
  rintro e w1 ⟨A_ca, n_ca, c_ca, xs_ca, rfl, o_ca, a_ca, v_ca, hb1, l_ca⟩
  have V_ca := Lib.hid v_ca
  clear v_ca
  refine ⟨_, rfl, Grow.of_below hb1, ?_⟩
  (refine ord_norm (fun K hK => ?_); go_simp; refine hK _ ?_; clear hK K)
  (refine ord_call (by rfl) (fun K hK => ?_); go_simp; refine hK _ _ ?_; clear hK K)
  refine (copied05_any (((HNB.out.below HZ.out.1).below (Below.refl _ _).drew).below hb1) (by omega)).mono ?_
  rintro e w2 ⟨A_cb, n_cb, c_cb, xs_cb, rfl, o_cb, a_cb, v_cb, hb2, l_cb⟩
  have V_cb := Lib.hid v_cb
  clear v_cb
  refine ⟨_, rfl, Grow.of_below hb2, ?_⟩
  (refine ord_norm (fun K hK => ?_); go_simp; refine hK _ ?_; clear hK K)
  (refine ord_call (by rfl) (fun K hK => ?_); go_simp; refine hK _ _ ?_; clear hK K)
  refine (gcd_any ((o_ca.numv a_ca V_ca.out l_ca).below hb2) (o_cb.numv a_cb V_cb.out l_cb) (by omega) (by omega)).mono ?_
  rintro e w3 ⟨A_g, n_g, c_g, rfl, o_g, hb3, l_g⟩
  refine ⟨_, rfl, Grow.of_below hb3, ?_⟩
  (refine ord_norm (fun K hK => ?_); go_simp; refine hK _ ?_; clear hK K)
  (refine ord_call (by rfl) (fun K hK => ?_); go_simp; refine hK _ _ ?_; clear hK K)
  refine (copied05_any (((((HNA.out.below HZ.out.1).below (Below.refl _ _).drew).below hb1).below hb2).below hb3) (by omega)).mono ?_
  rintro e w4 ⟨A_cc, n_cc, c_cc, xs_cc, rfl, o_cc, a_cc, v_cc, hb4, l_cc⟩
  have V_cc := Lib.hid v_cc
  clear v_cc
  refine ⟨_, rfl, Grow.of_below hb4, ?_⟩
  (refine ord_norm (fun K hK => ?_); go_simp; refine hK _ ?_; clear hK K)
  (refine ord_call (by rfl) (fun K hK => ?_); go_simp; refine hK _ _ ?_; clear hK K)
  refine (copied05_any ((((((HNB.out.below HZ.out.1).below (Below.refl _ _).drew).below hb1).below hb2).below hb3).below hb4) (by omega)).mono ?_
  rintro e w5 ⟨A_cd, n_cd, c_cd, xs_cd, rfl, o_cd, a_cd, v_cd, hb5, l_cd⟩
  have V_cd := Lib.hid v_cd
  clear v_cd
  refine ⟨_, rfl, Grow.of_below hb5, ?_⟩
  (refine ord_norm (fun K hK => ?_); go_simp; refine hK _ ?_; clear hK K)
  (refine ord_call (by rfl) (fun K hK => ?_); go_simp; refine hK _ _ ?_; clear hK K)
  refine (lcm_any ((o_cc.numv a_cc V_cc.out l_cc).below hb5) (o_cd.numv a_cd V_cd.out l_cd) (by omega) (by omega)).mono ?_
  rintro e w6 ⟨A_lc, n_lc, c_lc, rfl, o_lc, hb6, l_lc⟩
  refine ⟨_, rfl, Grow.of_below hb6, ?_⟩
  (refine ord_norm (fun K hK => ?_); go_simp; refine hK _ ?_; clear hK K)
  repeat (refine ord_pas (by rfl) (fun K hK => ?_); go_simp; refine hK _ _ (fun w' hw' => (by first | (go_simp; done) | (go_simp; intro hh; cases hh))) ?_; clear hK K)
  refine ord_nil ?_
  clear g_f0 e_f0 g_f1 e_f1
  clear o_ca o_cb o_cc o_cd
  go_wp2_with fail
  refine wp_region_grow none [(true, 0), (false, 1), (true, 2), (true, 3), (true, 4), (false, 5), (true, 6), (true, 7), (true, 8), (true, 9), (true, 10), (true, 12), (true, 13), (true, 14), (true, 15), (false, 11), (false, 16), (false, 17), (true, 18), (true, 19)] (by kernel_rfl) (by kernel_rfl) ?_
  repeat (refine ord_pas (by rfl) (fun K hK => ?_); go_simp; refine hK _ _ (fun w' hw' => (by first | (go_simp; done) | (go_simp; intro hh; cases hh))) ?_; clear hK K)
  (refine ord_call (by rfl) (fun K hK => ?_); go_simp; refine hK _ _ ?_; clear hK K)
  refine (inForm_yes ((((o_g.rd.below hb4).below hb5).below hb6).below (Below.refl _ _).drew) (by omega)).mono ?_
  rintro e w7 ⟨rfl, hb7⟩
  refine ⟨_, rfl, Grow.of_below hb7, ?_⟩
  (refine ord_norm (fun K hK => ?_); go_simp; refine hK _ ?_; clear hK K)
  repeat (refine ord_pas (by rfl) (fun K hK => ?_); go_simp; refine hK _ _ (fun w' hw' => (by first | (go_simp; done) | (go_simp; intro hh; cases hh))) ?_; clear hK K)
  (refine ord_call (by rfl) (fun K hK => ?_); go_simp; refine hK _ _ ?_; clear hK K)
  refine (inForm_yes ((o_lc.rd.below (Below.refl _ _).drew).below hb7) (by omega)).mono ?_
  rintro e w8 ⟨rfl, hb8⟩
  refine ⟨_, rfl, Grow.of_below hb8, ?_⟩
  (refine ord_norm (fun K hK => ?_); go_simp; refine hK _ ?_; clear hK K)
  have em_f0 := (((((((((((At.of (HZ.out.2 0 _ rfl)).below (Below.refl _ _).drew).below hb1).below hb2).below hb3).below hb4).below hb5).below hb6).below (Below.refl _ _).drew).below hb7).below hb8).1
  have gm_f0 := At.grow0 (((((((((((At.of (HZ.out.2 0 _ rfl)).below (Below.refl _ _).drew).below hb1).below hb2).below hb3).below hb4).below hb5).below hb6).below (Below.refl _ _).drew).below hb7).below hb8)
  have em_f1 := (((((((((((At.of (HZ.out.2 1 _ rfl)).below (Below.refl _ _).drew).below hb1).below hb2).below hb3).below hb4).below hb5).below hb6).below (Below.refl _ _).drew).below hb7).below hb8).1
  have gm_f1 := At.grow0 (((((((((((At.of (HZ.out.2 1 _ rfl)).below (Below.refl _ _).drew).below hb1).below hb2).below hb3).below hb4).below hb5).below hb6).below (Below.refl _ _).drew).below hb7).below hb8)
  repeat (refine ord_pas (by rfl) (fun K hK => ?_); go_simp; refine hK _ _ (fun w' hw' => (by first | (go_simp; done) | (go_simp; intro hh; cases hh))) ?_; clear hK K)
  clear gm_f0 em_f0 gm_f1 em_f1
  (refine ord_call (by rfl) (fun K hK => ?_); go_simp; refine hK _ _ ?_; clear hK K)
  refine (times5_any (((((((o_g.num l_g).below hb4).below hb5).below hb6).below (Below.refl _ _).drew).below hb7).below hb8) ((((o_lc.num l_lc).below (Below.refl _ _).drew).below hb7).below hb8) (by omega) (by omega)).mono ?_
  rintro e w9 ⟨A_p1, n_p1, c_p1, rfl, o_p1, hb9, l_p1⟩
  refine ⟨_, rfl, Grow.of_below hb9, ?_⟩
  (refine ord_norm (fun K hK => ?_); go_simp; refine hK _ ?_; clear hK K)
  (refine ord_call (by rfl) (fun K hK => ?_); go_simp; refine hK _ _ ?_; clear hK K)
  refine (times5_any ((((((((((((HNA.out.below HZ.out.1).below (Below.refl _ _).drew).below hb1).below hb2).below hb3).below hb4).below hb5).below hb6).below (Below.refl _ _).drew).below hb7).below hb8).below hb9) ((((((((((((HNB.out.below HZ.out.1).below (Below.refl _ _).drew).below hb1).below hb2).below hb3).below hb4).below hb5).below hb6).below (Below.refl _ _).drew).below hb7).below hb8).below hb9) (by omega) (by omega)).mono ?_
  rintro e w10 ⟨A_p2, n_p2, c_p2, rfl, o_p2, hb10, l_p2⟩
  refine ⟨_, rfl, Grow.of_below hb10, ?_⟩
  (refine ord_norm (fun K hK => ?_); go_simp; refine hK _ ?_; clear hK K)
  (refine ord_call (by rfl) (fun K hK => ?_); go_simp; refine hK _ _ ?_; clear hK K)
  refine (same5k_any (o_p1.rd.below hb10) o_p2.rd E1.out (by omega)).mono ?_
  rintro e w11 ⟨rfl, hb11⟩
  refine ⟨_, rfl, Grow.of_below hb11, ?_⟩
  (refine ord_norm (fun K hK => ?_); go_simp; refine hK _ ?_; clear hK K)
  repeat (refine ord_pas (by rfl) (fun K hK => ?_); go_simp; refine hK _ _ (fun w' hw' => (by first | (go_simp; done) | (go_simp; intro hh; cases hh))) ?_; clear hK K)
  refine ord_nil ?_
  clear o_p1 o_p2
  have CZ : Hid (∀ (w : World) (v : Value), Num w v (Nat.gcd a b) 60 → Calls Try.prog 23 #[v] w (Keeps (.bool false) w)) := fun w v h => by
    have := zero5_any h (by omega)
    rwa [decide_eq_false hg0] at this
  have CA : Hid (∀ (w : World) (v : Value), Num w v (a % Nat.gcd a b) 60 → Calls Try.prog 23 #[v] w (Keeps (.bool true) w)) := fun w v h => by
    have := zero5_any h (by omega)
    rwa [(E6.out hg0).1] at this
  have CB : Hid (∀ (w : World) (v : Value), Num w v (b % Nat.gcd a b) 60 → Calls Try.prog 23 #[v] w (Keeps (.bool true) w)) := fun w v h => by
    have := zero5_any h (by omega)
    rwa [(E6.out hg0).2] at this
  have HG0 : Hid (0 < Nat.gcd a b) := Nat.pos_of_ne_zero hg0
  clear hg0
  go_wp2_with fail
  refine (CZ.out _ _ (((((((((((o_g.num l_g).below hb4).below hb5).below hb6).below (Below.refl _ _).drew).below hb7).below hb8).below hb9).below hb10).below hb11).mono (by omega))).mono ?_
  rintro e w12 ⟨rfl, hb12⟩
  have e0 := (((((((((((((((At.of (HZ.out.2 0 _ rfl)).below (Below.refl _ _).drew).below hb1).below hb2).below hb3).below hb4).below hb5).below hb6).below (Below.refl _ _).drew).below hb7).below hb8).below hb9).below hb10).below hb11).below hb12).1
  have e1 := (((((((((((((((At.of (HZ.out.2 1 _ rfl)).below (Below.refl _ _).drew).below hb1).below hb2).below hb3).below hb4).below hb5).below hb6).below (Below.refl _ _).drew).below hb7).below hb8).below hb9).below hb10).below hb11).below hb12).1
  go_wp2_with fail
  refine (quo5_any (((((((((((((((HNA.out.below HZ.out.1).below (Below.refl _ _).drew).below hb1).below hb2).below hb3).below hb4).below hb5).below hb6).below (Below.refl _ _).drew).below hb7).below hb8).below hb9).below hb10).below hb11).below hb12) (((((((((((o_g.num l_g).below hb4).below hb5).below hb6).below (Below.refl _ _).drew).below hb7).below hb8).below hb9).below hb10).below hb11).below hb12) HG0.out (by omega) (by omega) (by omega) (by omega)).mono ?_
  rintro e w13 ⟨A_q1, n_q1, c_q1, A_r1, n_r1, c_r1, rfl, o_q1, o_r1, hb13, l_q1, l_r1⟩
  clear e0 e1
  have e0 := ((((((((((((((((At.of (HZ.out.2 0 _ rfl)).below (Below.refl _ _).drew).below hb1).below hb2).below hb3).below hb4).below hb5).below hb6).below (Below.refl _ _).drew).below hb7).below hb8).below hb9).below hb10).below hb11).below hb12).below hb13).1
  have e1 := ((((((((((((((((At.of (HZ.out.2 1 _ rfl)).below (Below.refl _ _).drew).below hb1).below hb2).below hb3).below hb4).below hb5).below hb6).below (Below.refl _ _).drew).below hb7).below hb8).below hb9).below hb10).below hb11).below hb12).below hb13).1
  go_wp2_with fail
  refine (quo5_any ((((((((((((((((HNB.out.below HZ.out.1).below (Below.refl _ _).drew).below hb1).below hb2).below hb3).below hb4).below hb5).below hb6).below (Below.refl _ _).drew).below hb7).below hb8).below hb9).below hb10).below hb11).below hb12).below hb13) ((((((((((((o_g.num l_g).below hb4).below hb5).below hb6).below (Below.refl _ _).drew).below hb7).below hb8).below hb9).below hb10).below hb11).below hb12).below hb13) HG0.out (by omega) (by omega) (by omega) (by omega)).mono ?_
  rintro e w14 ⟨A_q2, n_q2, c_q2, A_r2, n_r2, c_r2, rfl, o_q2, o_r2, hb14, l_q2, l_r2⟩
  clear e0 e1
  go_wp2_with fail
  refine (CA.out _ _ (((o_r1.num l_r1).below hb14).mono (by omega))).mono ?_
  rintro e w15 ⟨rfl, hb15⟩
  go_wp2_with fail
  refine (CB.out _ _ (((o_r2.num l_r2).below hb15).mono (by omega))).mono ?_
  rintro e w16 ⟨rfl, hb16⟩
  clear o_q1 o_q2 o_r1 o_r2
  go_wp2_with fail
  have e_f0 := (((((((((((((((((((At.of (HZ.out.2 0 _ rfl)).below (Below.refl _ _).drew).below hb1).below hb2).below hb3).below hb4).below hb5).below hb6).below (Below.refl _ _).drew).below hb7).below hb8).below hb9).below hb10).below hb11).below hb12).below hb13).below hb14).below hb15).below hb16).1
  have g_f0 := At.grow (((((((((((((((((((At.of (HZ.out.2 0 _ rfl)).below (Below.refl _ _).drew).below hb1).below hb2).below hb3).below hb4).below hb5).below hb6).below (Below.refl _ _).drew).below hb7).below hb8).below hb9).below hb10).below hb11).below hb12).below hb13).below hb14).below hb15).below hb16)
  have e_f1 := (((((((((((((((((((At.of (HZ.out.2 1 _ rfl)).below (Below.refl _ _).drew).below hb1).below hb2).below hb3).below hb4).below hb5).below hb6).below (Below.refl _ _).drew).below hb7).below hb8).below hb9).below hb10).below hb11).below hb12).below hb13).below hb14).below hb15).below hb16).1
  have g_f1 := At.grow (((((((((((((((((((At.of (HZ.out.2 1 _ rfl)).below (Below.refl _ _).drew).below hb1).below hb2).below hb3).below hb4).below hb5).below hb6).below (Below.refl _ _).drew).below hb7).below hb8).below hb9).below hb10).below hb11).below hb12).below hb13).below hb14).below hb15).below hb16)
  refine wp_region_grow none [(true, 0), (true, 1), (true, 3), (true, 4), (true, 7), (false, 2), (false, 5), (false, 6), (false, 8), (true, 9), (true, 10), (true, 11), (true, 12), (true, 13), (true, 14), (true, 16), (true, 17), (true, 20), (false, 15), (false, 18), (false, 19), (false, 21), (true, 22), (true, 23), (true, 24), (true, 25), (true, 26), (true, 29), (true, 30), (false, 27), (false, 28), (false, 31), (false, 32), (true, 33), (true, 34)] (by kernel_rfl) (by kernel_rfl) ?_
  repeat (refine ord_pas (by rfl) (fun K hK => ?_); go_simp; refine hK _ _ (fun w' hw' => (by first | (go_simp; done) | (go_simp; intro hh; cases hh))) ?_; clear hK K)
  (refine ord_call (by rfl) (fun K hK => ?_); go_simp; refine hK _ _ ?_; clear hK K)
  refine (copied05_any ((((((((((((((((((((HNB.out.below HZ.out.1).below (Below.refl _ _).drew).below hb1).below hb2).below hb3).below hb4).below hb5).below hb6).below (Below.refl _ _).drew).below hb7).below hb8).below hb9).below hb10).below hb11).below hb12).below hb13).below hb14).below hb15).below hb16).below (Below.refl _ _).drew) (by omega)).mono ?_
  rintro e w17 ⟨A_ce, n_ce, c_ce, xs_ce, rfl, o_ce, a_ce, v_ce, hb17, l_ce⟩
  have V_ce := Lib.hid v_ce
  clear v_ce
  refine ⟨_, rfl, Grow.of_below hb17, ?_⟩
  (refine ord_norm (fun K hK => ?_); go_simp; refine hK _ ?_; clear hK K)
  (refine ord_call (by rfl) (fun K hK => ?_); go_simp; refine hK _ _ ?_; clear hK K)
  refine (copied05_any (((((((((((((((((((((HNA.out.below HZ.out.1).below (Below.refl _ _).drew).below hb1).below hb2).below hb3).below hb4).below hb5).below hb6).below (Below.refl _ _).drew).below hb7).below hb8).below hb9).below hb10).below hb11).below hb12).below hb13).below hb14).below hb15).below hb16).below (Below.refl _ _).drew).below hb17) (by omega)).mono ?_
  rintro e w18 ⟨A_cf, n_cf, c_cf, xs_cf, rfl, o_cf, a_cf, v_cf, hb18, l_cf⟩
  have V_cf := Lib.hid v_cf
  clear v_cf
  refine ⟨_, rfl, Grow.of_below hb18, ?_⟩
  (refine ord_norm (fun K hK => ?_); go_simp; refine hK _ ?_; clear hK K)
  (refine ord_call (by rfl) (fun K hK => ?_); go_simp; refine hK _ _ ?_; clear hK K)
  refine (gcd_any ((o_ce.numv a_ce V_ce.out l_ce).below hb18) (o_cf.numv a_cf V_cf.out l_cf) (by omega) (by omega)).mono ?_
  rintro e w19 ⟨A_g2, n_g2, c_g2, rfl, o_g2, hb19, l_g2⟩
  refine ⟨_, rfl, Grow.of_below hb19, ?_⟩
  (refine ord_norm (fun K hK => ?_); go_simp; refine hK _ ?_; clear hK K)
  (refine ord_call (by rfl) (fun K hK => ?_); go_simp; refine hK _ _ ?_; clear hK K)
  refine (same5k_any o_g2.rd ((((((((((((((((((o_g.rd.below hb4).below hb5).below hb6).below (Below.refl _ _).drew).below hb7).below hb8).below hb9).below hb10).below hb11).below hb12).below hb13).below hb14).below hb15).below hb16).below (Below.refl _ _).drew).below hb17).below hb18).below hb19) E2.out (by omega)).mono ?_
  rintro e w20 ⟨rfl, hb20⟩
  refine ⟨_, rfl, Grow.of_below hb20, ?_⟩
  (refine ord_norm (fun K hK => ?_); go_simp; refine hK _ ?_; clear hK K)
  have em_f0 := ((((((((((((((((((((((((At.of (HZ.out.2 0 _ rfl)).below (Below.refl _ _).drew).below hb1).below hb2).below hb3).below hb4).below hb5).below hb6).below (Below.refl _ _).drew).below hb7).below hb8).below hb9).below hb10).below hb11).below hb12).below hb13).below hb14).below hb15).below hb16).below (Below.refl _ _).drew).below hb17).below hb18).below hb19).below hb20).1
  have gm_f0 := At.grow0 ((((((((((((((((((((((((At.of (HZ.out.2 0 _ rfl)).below (Below.refl _ _).drew).below hb1).below hb2).below hb3).below hb4).below hb5).below hb6).below (Below.refl _ _).drew).below hb7).below hb8).below hb9).below hb10).below hb11).below hb12).below hb13).below hb14).below hb15).below hb16).below (Below.refl _ _).drew).below hb17).below hb18).below hb19).below hb20)
  have em_f1 := ((((((((((((((((((((((((At.of (HZ.out.2 1 _ rfl)).below (Below.refl _ _).drew).below hb1).below hb2).below hb3).below hb4).below hb5).below hb6).below (Below.refl _ _).drew).below hb7).below hb8).below hb9).below hb10).below hb11).below hb12).below hb13).below hb14).below hb15).below hb16).below (Below.refl _ _).drew).below hb17).below hb18).below hb19).below hb20).1
  have gm_f1 := At.grow0 ((((((((((((((((((((((((At.of (HZ.out.2 1 _ rfl)).below (Below.refl _ _).drew).below hb1).below hb2).below hb3).below hb4).below hb5).below hb6).below (Below.refl _ _).drew).below hb7).below hb8).below hb9).below hb10).below hb11).below hb12).below hb13).below hb14).below hb15).below hb16).below (Below.refl _ _).drew).below hb17).below hb18).below hb19).below hb20)
  repeat (refine ord_pas (by rfl) (fun K hK => ?_); go_simp; refine hK _ _ (fun w' hw' => (by first | (go_simp; done) | (go_simp; intro hh; cases hh))) ?_; clear hK K)
  clear gm_f0 em_f0 gm_f1 em_f1
  (refine ord_call (by rfl) (fun K hK => ?_); go_simp; refine hK _ _ ?_; clear hK K)
  refine (plus5_any ((((((((((((((((((((((((HNA.out.below HZ.out.1).below (Below.refl _ _).drew).below hb1).below hb2).below hb3).below hb4).below hb5).below hb6).below (Below.refl _ _).drew).below hb7).below hb8).below hb9).below hb10).below hb11).below hb12).below hb13).below hb14).below hb15).below hb16).below (Below.refl _ _).drew).below hb17).below hb18).below hb19).below hb20) ((((((((((((((((((((((((HNB.out.below HZ.out.1).below (Below.refl _ _).drew).below hb1).below hb2).below hb3).below hb4).below hb5).below hb6).below (Below.refl _ _).drew).below hb7).below hb8).below hb9).below hb10).below hb11).below hb12).below hb13).below hb14).below hb15).below hb16).below (Below.refl _ _).drew).below hb17).below hb18).below hb19).below hb20) (by omega) (by omega)).mono ?_
  rintro e w21 ⟨A_p3, n_p3, c_p3, rfl, o_p3, hb21, l_p3⟩
  refine ⟨_, rfl, Grow.of_below hb21, ?_⟩
  (refine ord_norm (fun K hK => ?_); go_simp; refine hK _ ?_; clear hK K)
  (refine ord_call (by rfl) (fun K hK => ?_); go_simp; refine hK _ _ ?_; clear hK K)
  refine (copied05_any (((((((((((((((((((((((((HNB.out.below HZ.out.1).below (Below.refl _ _).drew).below hb1).below hb2).below hb3).below hb4).below hb5).below hb6).below (Below.refl _ _).drew).below hb7).below hb8).below hb9).below hb10).below hb11).below hb12).below hb13).below hb14).below hb15).below hb16).below (Below.refl _ _).drew).below hb17).below hb18).below hb19).below hb20).below hb21) (by omega)).mono ?_
  rintro e w22 ⟨A_ch, n_ch, c_ch, xs_ch, rfl, o_ch, a_ch, v_ch, hb22, l_ch⟩
  have V_ch := Lib.hid v_ch
  clear v_ch
  refine ⟨_, rfl, Grow.of_below hb22, ?_⟩
  (refine ord_norm (fun K hK => ?_); go_simp; refine hK _ ?_; clear hK K)
  (refine ord_call (by rfl) (fun K hK => ?_); go_simp; refine hK _ _ ?_; clear hK K)
  refine (gcd_any ((o_p3.num l_p3).below hb22) (o_ch.numv a_ch V_ch.out l_ch) (by omega) (by omega)).mono ?_
  rintro e w23 ⟨A_g3, n_g3, c_g3, rfl, o_g3, hb23, l_g3⟩
  refine ⟨_, rfl, Grow.of_below hb23, ?_⟩
  (refine ord_norm (fun K hK => ?_); go_simp; refine hK _ ?_; clear hK K)
  (refine ord_call (by rfl) (fun K hK => ?_); go_simp; refine hK _ _ ?_; clear hK K)
  refine (same5k_any o_g3.rd ((((((((((((((((((((((o_g.rd.below hb4).below hb5).below hb6).below (Below.refl _ _).drew).below hb7).below hb8).below hb9).below hb10).below hb11).below hb12).below hb13).below hb14).below hb15).below hb16).below (Below.refl _ _).drew).below hb17).below hb18).below hb19).below hb20).below hb21).below hb22).below hb23) E3.out (by omega)).mono ?_
  rintro e w24 ⟨rfl, hb24⟩
  refine ⟨_, rfl, Grow.of_below hb24, ?_⟩
  (refine ord_norm (fun K hK => ?_); go_simp; refine hK _ ?_; clear hK K)
  have em_f0 := ((((((((((((((((((((((((((((At.of (HZ.out.2 0 _ rfl)).below (Below.refl _ _).drew).below hb1).below hb2).below hb3).below hb4).below hb5).below hb6).below (Below.refl _ _).drew).below hb7).below hb8).below hb9).below hb10).below hb11).below hb12).below hb13).below hb14).below hb15).below hb16).below (Below.refl _ _).drew).below hb17).below hb18).below hb19).below hb20).below hb21).below hb22).below hb23).below hb24).1
  have gm_f0 := At.grow0 ((((((((((((((((((((((((((((At.of (HZ.out.2 0 _ rfl)).below (Below.refl _ _).drew).below hb1).below hb2).below hb3).below hb4).below hb5).below hb6).below (Below.refl _ _).drew).below hb7).below hb8).below hb9).below hb10).below hb11).below hb12).below hb13).below hb14).below hb15).below hb16).below (Below.refl _ _).drew).below hb17).below hb18).below hb19).below hb20).below hb21).below hb22).below hb23).below hb24)
  repeat (refine ord_pas (by rfl) (fun K hK => ?_); go_simp; refine hK _ _ (fun w' hw' => (by first | (go_simp; done) | (go_simp; intro hh; cases hh))) ?_; clear hK K)
  clear gm_f0 em_f0
  (refine ord_call (by rfl) (fun K hK => ?_); go_simp; refine hK _ _ ?_; clear hK K)
  refine (copied05_any ((((((((((((((((((((((((((((HNA.out.below HZ.out.1).below (Below.refl _ _).drew).below hb1).below hb2).below hb3).below hb4).below hb5).below hb6).below (Below.refl _ _).drew).below hb7).below hb8).below hb9).below hb10).below hb11).below hb12).below hb13).below hb14).below hb15).below hb16).below (Below.refl _ _).drew).below hb17).below hb18).below hb19).below hb20).below hb21).below hb22).below hb23).below hb24) (by omega)).mono ?_
  rintro e w25 ⟨A_ci, n_ci, c_ci, xs_ci, rfl, o_ci, a_ci, v_ci, hb25, l_ci⟩
  have V_ci := Lib.hid v_ci
  clear v_ci
  refine ⟨_, rfl, Grow.of_below hb25, ?_⟩
  (refine ord_norm (fun K hK => ?_); go_simp; refine hK _ ?_; clear hK K)
  (refine ord_call (by rfl) (fun K hK => ?_); go_simp; refine hK _ _ ?_; clear hK K)
  refine (gcd_any (o_ci.numv a_ci V_ci.out l_ci) Num.nil (by omega) (by omega)).mono ?_
  rintro e w26 ⟨A_g4, n_g4, c_g4, rfl, o_g4, hb26, l_g4⟩
  refine ⟨_, rfl, Grow.of_below hb26, ?_⟩
  (refine ord_norm (fun K hK => ?_); go_simp; refine hK _ ?_; clear hK K)
  (refine ord_call (by rfl) (fun K hK => ?_); go_simp; refine hK _ _ ?_; clear hK K)
  refine (norm5_any ((((((((((((((((((((((((((((((HNA.out.below HZ.out.1).below (Below.refl _ _).drew).below hb1).below hb2).below hb3).below hb4).below hb5).below hb6).below (Below.refl _ _).drew).below hb7).below hb8).below hb9).below hb10).below hb11).below hb12).below hb13).below hb14).below hb15).below hb16).below (Below.refl _ _).drew).below hb17).below hb18).below hb19).below hb20).below hb21).below hb22).below hb23).below hb24).below hb25).below hb26) (by omega)).mono ?_
  rintro e w27 ⟨A_nn, n_nn, c_nn, rfl, o_nn, hb27, l_nn⟩
  refine ⟨_, rfl, Grow.of_below hb27, ?_⟩
  (refine ord_norm (fun K hK => ?_); go_simp; refine hK _ ?_; clear hK K)
  (refine ord_call (by rfl) (fun K hK => ?_); go_simp; refine hK _ _ ?_; clear hK K)
  refine (same5k_any (o_g4.rd.below hb27) o_nn.rd E4.out (by omega)).mono ?_
  rintro e w28 ⟨rfl, hb28⟩
  refine ⟨_, rfl, Grow.of_below hb28, ?_⟩
  (refine ord_norm (fun K hK => ?_); go_simp; refine hK _ ?_; clear hK K)
  repeat (refine ord_pas (by rfl) (fun K hK => ?_); go_simp; refine hK _ _ (fun w' hw' => (by first | (go_simp; done) | (go_simp; intro hh; cases hh))) ?_; clear hK K)
  refine ord_nil ?_
  clear g_f0 e_f0 g_f1 e_f1
  clear o_ce o_cf o_g2 o_p3 o_ch o_g3 o_ci o_g4 o_nn
  go_wp2_with fail
  have e_f0 := ((((((((((((((((((((((((((((((((At.of (HZ.out.2 0 _ rfl)).below (Below.refl _ _).drew).below hb1).below hb2).below hb3).below hb4).below hb5).below hb6).below (Below.refl _ _).drew).below hb7).below hb8).below hb9).below hb10).below hb11).below hb12).below hb13).below hb14).below hb15).below hb16).below (Below.refl _ _).drew).below hb17).below hb18).below hb19).below hb20).below hb21).below hb22).below hb23).below hb24).below hb25).below hb26).below hb27).below hb28).1
  have g_f0 := At.grow ((((((((((((((((((((((((((((((((At.of (HZ.out.2 0 _ rfl)).below (Below.refl _ _).drew).below hb1).below hb2).below hb3).below hb4).below hb5).below hb6).below (Below.refl _ _).drew).below hb7).below hb8).below hb9).below hb10).below hb11).below hb12).below hb13).below hb14).below hb15).below hb16).below (Below.refl _ _).drew).below hb17).below hb18).below hb19).below hb20).below hb21).below hb22).below hb23).below hb24).below hb25).below hb26).below hb27).below hb28)
  have e_f1 := ((((((((((((((((((((((((((((((((At.of (HZ.out.2 1 _ rfl)).below (Below.refl _ _).drew).below hb1).below hb2).below hb3).below hb4).below hb5).below hb6).below (Below.refl _ _).drew).below hb7).below hb8).below hb9).below hb10).below hb11).below hb12).below hb13).below hb14).below hb15).below hb16).below (Below.refl _ _).drew).below hb17).below hb18).below hb19).below hb20).below hb21).below hb22).below hb23).below hb24).below hb25).below hb26).below hb27).below hb28).1
  have g_f1 := At.grow ((((((((((((((((((((((((((((((((At.of (HZ.out.2 1 _ rfl)).below (Below.refl _ _).drew).below hb1).below hb2).below hb3).below hb4).below hb5).below hb6).below (Below.refl _ _).drew).below hb7).below hb8).below hb9).below hb10).below hb11).below hb12).below hb13).below hb14).below hb15).below hb16).below (Below.refl _ _).drew).below hb17).below hb18).below hb19).below hb20).below hb21).below hb22).below hb23).below hb24).below hb25).below hb26).below hb27).below hb28)
  have e_f2 := ((((((((((((((((((((((((((((((((At.of (HZ.out.2 2 _ rfl)).below (Below.refl _ _).drew).below hb1).below hb2).below hb3).below hb4).below hb5).below hb6).below (Below.refl _ _).drew).below hb7).below hb8).below hb9).below hb10).below hb11).below hb12).below hb13).below hb14).below hb15).below hb16).below (Below.refl _ _).drew).below hb17).below hb18).below hb19).below hb20).below hb21).below hb22).below hb23).below hb24).below hb25).below hb26).below hb27).below hb28).1
  have g_f2 := At.grow ((((((((((((((((((((((((((((((((At.of (HZ.out.2 2 _ rfl)).below (Below.refl _ _).drew).below hb1).below hb2).below hb3).below hb4).below hb5).below hb6).below (Below.refl _ _).drew).below hb7).below hb8).below hb9).below hb10).below hb11).below hb12).below hb13).below hb14).below hb15).below hb16).below (Below.refl _ _).drew).below hb17).below hb18).below hb19).below hb20).below hb21).below hb22).below hb23).below hb24).below hb25).below hb26).below hb27).below hb28)
  refine wp_region_grow none [(true, 0), (true, 1), (true, 2), (true, 3), (true, 5), (true, 6), (true, 7), (true, 8), (true, 11), (true, 12), (true, 13), (false, 4), (false, 9), (false, 10), (false, 14), (false, 15), (true, 16)] (by kernel_rfl) (by kernel_rfl) ?_
  repeat (refine ord_pas (by rfl) (fun K hK => ?_); go_simp; refine hK _ _ (fun w' hw' => (by first | (go_simp; done) | (go_simp; intro hh; cases hh))) ?_; clear hK K)
  (refine ord_call (by rfl) (fun K hK => ?_); go_simp; refine hK _ _ ?_; clear hK K)
  refine (times5_any (((((((((((((((((((((((((((((((((HNK.out.below HZ.out.1).below (Below.refl _ _).drew).below hb1).below hb2).below hb3).below hb4).below hb5).below hb6).below (Below.refl _ _).drew).below hb7).below hb8).below hb9).below hb10).below hb11).below hb12).below hb13).below hb14).below hb15).below hb16).below (Below.refl _ _).drew).below hb17).below hb18).below hb19).below hb20).below hb21).below hb22).below hb23).below hb24).below hb25).below hb26).below hb27).below hb28).below (Below.refl _ _).drew) (((((((((((((((((((((((((((((((((HNA.out.below HZ.out.1).below (Below.refl _ _).drew).below hb1).below hb2).below hb3).below hb4).below hb5).below hb6).below (Below.refl _ _).drew).below hb7).below hb8).below hb9).below hb10).below hb11).below hb12).below hb13).below hb14).below hb15).below hb16).below (Below.refl _ _).drew).below hb17).below hb18).below hb19).below hb20).below hb21).below hb22).below hb23).below hb24).below hb25).below hb26).below hb27).below hb28).below (Below.refl _ _).drew) (by omega) (by omega)).mono ?_
  rintro e w29 ⟨A_p4, n_p4, c_p4, rfl, o_p4, hb29, l_p4⟩
  refine ⟨_, rfl, Grow.of_below hb29, ?_⟩
  (refine ord_norm (fun K hK => ?_); go_simp; refine hK _ ?_; clear hK K)
  (refine ord_call (by rfl) (fun K hK => ?_); go_simp; refine hK _ _ ?_; clear hK K)
  refine (times5_any ((((((((((((((((((((((((((((((((((HNK.out.below HZ.out.1).below (Below.refl _ _).drew).below hb1).below hb2).below hb3).below hb4).below hb5).below hb6).below (Below.refl _ _).drew).below hb7).below hb8).below hb9).below hb10).below hb11).below hb12).below hb13).below hb14).below hb15).below hb16).below (Below.refl _ _).drew).below hb17).below hb18).below hb19).below hb20).below hb21).below hb22).below hb23).below hb24).below hb25).below hb26).below hb27).below hb28).below (Below.refl _ _).drew).below hb29) ((((((((((((((((((((((((((((((((((HNB.out.below HZ.out.1).below (Below.refl _ _).drew).below hb1).below hb2).below hb3).below hb4).below hb5).below hb6).below (Below.refl _ _).drew).below hb7).below hb8).below hb9).below hb10).below hb11).below hb12).below hb13).below hb14).below hb15).below hb16).below (Below.refl _ _).drew).below hb17).below hb18).below hb19).below hb20).below hb21).below hb22).below hb23).below hb24).below hb25).below hb26).below hb27).below hb28).below (Below.refl _ _).drew).below hb29) (by omega) (by omega)).mono ?_
  rintro e w30 ⟨A_p5, n_p5, c_p5, rfl, o_p5, hb30, l_p5⟩
  refine ⟨_, rfl, Grow.of_below hb30, ?_⟩
  (refine ord_norm (fun K hK => ?_); go_simp; refine hK _ ?_; clear hK K)
  (refine ord_call (by rfl) (fun K hK => ?_); go_simp; refine hK _ _ ?_; clear hK K)
  refine (gcd_any ((o_p4.num l_p4).below hb30) (o_p5.num l_p5) (by omega) (by omega)).mono ?_
  rintro e w31 ⟨A_g5, n_g5, c_g5, rfl, o_g5, hb31, l_g5⟩
  refine ⟨_, rfl, Grow.of_below hb31, ?_⟩
  (refine ord_norm (fun K hK => ?_); go_simp; refine hK _ ?_; clear hK K)
  (refine ord_call (by rfl) (fun K hK => ?_); go_simp; refine hK _ _ ?_; clear hK K)
  refine (times5_any ((((((((((((((((((((((((((((((((((((HNK.out.below HZ.out.1).below (Below.refl _ _).drew).below hb1).below hb2).below hb3).below hb4).below hb5).below hb6).below (Below.refl _ _).drew).below hb7).below hb8).below hb9).below hb10).below hb11).below hb12).below hb13).below hb14).below hb15).below hb16).below (Below.refl _ _).drew).below hb17).below hb18).below hb19).below hb20).below hb21).below hb22).below hb23).below hb24).below hb25).below hb26).below hb27).below hb28).below (Below.refl _ _).drew).below hb29).below hb30).below hb31) ((((((((((((((((((((((((((((((((o_g.num l_g).below hb4).below hb5).below hb6).below (Below.refl _ _).drew).below hb7).below hb8).below hb9).below hb10).below hb11).below hb12).below hb13).below hb14).below hb15).below hb16).below (Below.refl _ _).drew).below hb17).below hb18).below hb19).below hb20).below hb21).below hb22).below hb23).below hb24).below hb25).below hb26).below hb27).below hb28).below (Below.refl _ _).drew).below hb29).below hb30).below hb31) (by omega) (by omega)).mono ?_
  rintro e w32 ⟨A_p6, n_p6, c_p6, rfl, o_p6, hb32, l_p6⟩
  refine ⟨_, rfl, Grow.of_below hb32, ?_⟩
  (refine ord_norm (fun K hK => ?_); go_simp; refine hK _ ?_; clear hK K)
  (refine ord_call (by rfl) (fun K hK => ?_); go_simp; refine hK _ _ ?_; clear hK K)
  refine (same5k_any (o_g5.rd.below hb32) o_p6.rd E5.out (by omega)).mono ?_
  rintro e w33 ⟨rfl, hb33⟩
  refine ⟨_, rfl, Grow.of_below hb33, ?_⟩
  (refine ord_norm (fun K hK => ?_); go_simp; refine hK _ ?_; clear hK K)
  repeat (refine ord_pas (by rfl) (fun K hK => ?_); go_simp; refine hK _ _ (fun w' hw' => (by first | (go_simp; done) | (go_simp; intro hh; cases hh))) ?_; clear hK K)
  refine ord_nil ?_
  clear g_f0 e_f0 g_f1 e_f1 g_f2 e_f2
  clear o_p4 o_p5 o_g5 o_p6
  have e3 := ((((((((((((((((((((((((((((((((((((((At.of (HZ.out.2 3 _ rfl)).below (Below.refl _ _).drew).below hb1).below hb2).below hb3).below hb4).below hb5).below hb6).below (Below.refl _ _).drew).below hb7).below hb8).below hb9).below hb10).below hb11).below hb12).below hb13).below hb14).below hb15).below hb16).below (Below.refl _ _).drew).below hb17).below hb18).below hb19).below hb20).below hb21).below hb22).below hb23).below hb24).below hb25).below hb26).below hb27).below hb28).below (Below.refl _ _).drew).below hb29).below hb30).below hb31).below hb32).below hb33).1
  have HPX := Lib.hid (And.intro (bt (bt (bt (bt (bt (bt (bt (bt (bt (bt (bt (bt (bt (bt (bt (bt (bt (bt (bt (bt (bt (bt (bt (bt (bt (bt (bt (bt (bt (bt (bt (bt (bt (bt (bt (bt (bt HZ.out.1 (Below.refl _ _).drew) hb1) hb2) hb3) hb4) hb5) hb6) (Below.refl _ _).drew) hb7) hb8) hb9) hb10) hb11) hb12) hb13) hb14) hb15) hb16) (Below.refl _ _).drew) hb17) hb18) hb19) hb20) hb21) hb22) hb23) hb24) hb25) hb26) hb27) hb28) (Below.refl _ _).drew) hb29) hb30) hb31) hb32) hb33) (And.intro ((((((((((((((((((((((((((((((((((((((At.of (HZ.out.2 3 _ rfl)).below (Below.refl _ _).drew).below hb1).below hb2).below hb3).below hb4).below hb5).below hb6).below (Below.refl _ _).drew).below hb7).below hb8).below hb9).below hb10).below hb11).below hb12).below hb13).below hb14).below hb15).below hb16).below (Below.refl _ _).drew).below hb17).below hb18).below hb19).below hb20).below hb21).below hb22).below hb23).below hb24).below hb25).below hb26).below hb27).below hb28).below (Below.refl _ _).drew).below hb29).below hb30).below hb31).below hb32).below hb33) (((((((((((((((((((((((((((((((((((((HNL.out.below (Below.refl _ _).drew).below hb1).below hb2).below hb3).below hb4).below hb5).below hb6).below (Below.refl _ _).drew).below hb7).below hb8).below hb9).below hb10).below hb11).below hb12).below hb13).below hb14).below hb15).below hb16).below (Below.refl _ _).drew).below hb17).below hb18).below hb19).below hb20).below hb21).below hb22).below hb23).below hb24).below hb25).below hb26).below hb27).below hb28).below (Below.refl _ _).drew).below hb29).below hb30).below hb31).below hb32).below hb33)))
  go_wp2_with fail
  refine (copies05_any (((((((((((((((((((((((((((((((((((((HNL.out.below (Below.refl _ _).drew).below hb1).below hb2).below hb3).below hb4).below hb5).below hb6).below (Below.refl _ _).drew).below hb7).below hb8).below hb9).below hb10).below hb11).below hb12).below hb13).below hb14).below hb15).below hb16).below (Below.refl _ _).drew).below hb17).below hb18).below hb19).below hb20).below hb21).below hb22).below hb23).below hb24).below hb25).below hb26).below hb27).below hb28).below (Below.refl _ _).drew).below hb29).below hb30).below hb31).below hb32).below hb33) (by omega) (fun i => Nat.le_trans (nth_replicate_le _ _ _) (by omega))).mono ?_
  rintro e w34 ⟨A_tn, c_tn, rfl, o_tn, hb34⟩
  clear e3
  obtain ⟨vs0, hE, hM⟩ := o_tn.entries HLL.out.1
  generalize mval w34 = f at hE hM
  have HST := Lib.hid (And.intro hE hb34)
  have HM := Lib.hid hM
  clear hE hM o_tn
  obtain ⟨hf2, hh2⟩ : ∃ hf2, hf2 = nL / 2 := ⟨_, rfl⟩
  have e2 := lay (show (nL : Int) / 2 = (hf2 : Int) by omega)
  have e2b := lay (show (nL : Int).tdiv 2 = (hf2 : Int) by rw [Int.tdiv_eq_ediv_of_nonneg (by omega)]; omega)
  have hh3 : 2 * hf2 ≤ nL := by omega
  clear hh2
  go_wp2
  go_loopw [10] (fun iv wr => ∃ (j : Nat) (vs : List Value), Hid (vs.Perm vs0 ∧ OwnE 56 23 w33.heap.size wr A_tn nL c_tn vs f ∧ Below w33.heap.size w33 wr) ∧ j ≤ hf2 ∧ iv = .int .i64 (j : Int)) (fun iv _ => hf2 - (intOf iv).toNat)
  case atStart => exact ⟨0, vs0, ⟨List.Perm.refl _, HST.out.1, HST.out.2⟩, Nat.zero_le _, rfl⟩
  case round =>
    obtain ⟨j, vs, hI, hj, rfl⟩ := hrel
    by_cases hlt : j < hf2
    · obtain ⟨kk, hkk⟩ : ∃ kk, kk = nL - 1 - j := ⟨_, rfl⟩
      have ek := lay (show (nL : Int) - 1 - (j : Int) = (kk : Int) by omega)
      have hjk : j ≠ kk := by omega
      have hkn : kk < nL := by omega
      have hjn : j < nL := by omega
      have hvl : vs.length = nL := by have := hI.out.2.1.2.1.1; omega
      obtain ⟨gg, _, hfm, hgB, hgl⟩ := World.ownsRow.form hI.out.2.1.2.1 (by omega)
      injection hfm with hfm _ hcq
      clear hcq
      subst hfm
      obtain ⟨P1, m1, r1, _, hu1, hx1⟩ := hI.out.2.1.2.2 (vs[j]'(by omega)) (List.getElem_mem _)
      obtain ⟨P2, m2, r2, _, hu2, hx2⟩ := hI.out.2.1.2.2 (vs[kk]'(by omega)) (List.getElem_mem _)
      have cj : Cel wr ⟨gg, j, none⟩ (.slice P1 m1 r1) := ⟨by rw [World.ownsRow.cellAt hI.out.2.1.2.1 j (by omega), List.getElem?_eq_getElem (by omega), hu1], World.ownsRow.frozenAt hI.out.2.1.2.1 j, hgl⟩
      have ck : Cel wr ⟨gg, kk, none⟩ (.slice P2 m2 r2) := ⟨by rw [World.ownsRow.cellAt hI.out.2.1.2.1 kk (by omega), List.getElem?_eq_getElem (by omega), hu2], World.ownsRow.frozenAt hI.out.2.1.2.1 kk, hgl⟩
      have HSW : Hid ((((vs.set j (.slice P2 m2 r2)).set kk (.slice P1 m1 r1)).Perm vs0) ∧ OwnE 56 23 w33.heap.size ((wr.drew.setCell ⟨gg, j, none⟩ (.slice P2 m2 r2)).setCell ⟨gg, kk, none⟩ (.slice P1 m1 r1)) (some ⟨gg, 0, none⟩) nL c_tn ((vs.set j (.slice P2 m2 r2)).set kk (.slice P1 m1 r1)) f ∧ Below w33.heap.size w33 ((wr.drew.setCell ⟨gg, j, none⟩ (.slice P2 m2 r2)).setCell ⟨gg, kk, none⟩ (.slice P1 m1 r1))) := by
        refine ⟨List.Perm.trans ?_ hI.out.1, ?_, ?_⟩
        · rw [← hu1, ← hu2]; exact List.set_set_perm (by omega) (by omega)
        · exact OwnE.swap (w := wr.drew) hI.out.2.1 (by rw [← hu2]; exact List.getElem_mem _) (by rw [← hu1]; exact List.getElem_mem _)
        · exact ((hI.out.2.2.drew).setCell (p := ⟨gg, j, none⟩) hgB _).setCell (p := ⟨gg, kk, none⟩) hgB _
      have CK2 : Hid (Cel (wr.drew.setCell ⟨gg, j, none⟩ (.slice P2 m2 r2)) ⟨gg, kk, none⟩ (.slice P2 m2 r2)) := (Cel.drew ck).set (by intro e; injection e with _ e2; omega)
      have HCJ := Lib.hid cj
      have HCK := Lib.hid ck
      clear hx1 hx2 hu1 hu2 hvl cj ck hkk
      have i0 : (0 : Int) ≤ (j : Int) := by omega
      have i1 : (j : Int) < (nL : Int) := by omega
      have i2 : (0 : Int) ≤ (kk : Int) := by omega
      have i3 : (kk : Int) < (nL : Int) := by omega
      go_wp2_with fail
      have e_cj := HCJ.out.1
      have e_ck := HCK.out.1
      have g_cj := At.grow (At.of HCJ.out)
      have g_ck := At.grow (At.of HCK.out)
      refine wp_region_stores [(0, 0), (0, 1), (3, 2), (3, 3), (0, 4), (0, 5), (0, 6), (0, 7), (3, 8), (3, 9), (3, 10), (0, 11), (0, 12), (2, 13), (0, 14), (2, 15)] (by kernel_rfl) (by kernel_rfl) ?_
      repeat (first | (refine sord_pas (by rfl) (fun K hK => ?_); go_simp; refine hK _ _ (fun w' hw' => (by first | (go_simp; done) | (go_simp; intro hh; cases hh))) ?_; clear hK K) | (refine sord_pasT (by rfl) (fun K hK => ?_); go_simp; refine hK _ _ (fun w' hw' => (by first | (go_simp; done) | (go_simp; intro hh; cases hh))) ?_; clear hK K))
      clear g_cj g_ck e_cj e_ck
      obtain ⟨z0a, z0b, z0c⟩ := Cel.drew HCJ.out
      (refine sord_store (by rfl) (fun K hK => ?_); go_simp; refine hK _ _ ?_; clear hK K)
      repeat (first | (refine sord_pas (by rfl) (fun K hK => ?_); go_simp; refine hK _ _ (fun w' hw' => (by first | (go_simp; done) | (go_simp; intro hh; cases hh))) ?_; clear hK K) | (refine sord_pasT (by rfl) (fun K hK => ?_); go_simp; refine hK _ _ (fun w' hw' => (by first | (go_simp; done) | (go_simp; intro hh; cases hh))) ?_; clear hK K))
      clear z0a z0b z0c
      obtain ⟨z1a, z1b, z1c⟩ := HCK.out
      (refine sord_store (by rfl) (fun K hK => ?_); go_simp; refine hK _ _ ?_; clear hK K)
      refine sord_nil ?_
      clear z1a z1b z1c
      go_wp2
      go_roundw
      case rel => exact ⟨j + 1, _, HSW, by omega, by go_num⟩
      case measure => simp [intOf]; omega
    · have hd : ¬ (j : Int) < (hf2 : Int) := by omega
      have HTN := Lib.hid hI.out
      have EQ1 : Hid (dg W (gall (vs.map f)) = dg W (gall xs)) := by show _ = _; rw [gall_perm (hI.out.1.map f), HM.out]
      have EQ2 : Hid (dg W (llcm (vs.map f)) = dg W (llcm xs)) := by show _ = _; rw [llcm_perm (hI.out.1.map f), HM.out]
      have HLT := Lib.hid hI.out.2.1.nums.1
      clear hI hlt hj
      obtain ⟨wq, rfl⟩ : ∃ wq : World, wq = wr := ⟨_, rfl⟩
      have e3 := (HPX.out.2.1.below HTN.out.2.2).1
      go_wp2_with fail
      refine (copies05_any (HPX.out.2.2.below HTN.out.2.2) (by omega) (fun i => Nat.le_trans (nth_replicate_le _ _ _) (by omega))).mono ?_
      rintro e w1 ⟨A_c0, c_c0, rfl, o_c0, hb1⟩
      go_wp2_with fail
      refine (all_any (OwnR.nums o_c0 HLL.out.1 HLL.out.2.1 (fun _ _ h => h)) (by omega) (by omega)).mono ?_
      rintro e w2 ⟨A_all, n_all, c_all, rfl, o_all, hb2, l_all⟩
      clear e3 hd
      have hal : n_all ≤ 600 := by omega
      have HPY := Lib.hid (And.intro (bt (bt (bt HPX.out.1 HTN.out.2.2) hb1) hb2) (And.intro (((HPX.out.2.1.below HTN.out.2.2).below hb1).below hb2) (And.intro (((HPX.out.2.2.below HTN.out.2.2).below hb1).below hb2) (And.intro o_all.rd (And.intro (o_all.num hal) (HTN.out.2.1.below (bt hb1 hb2)))))))
      clear o_c0 o_all
      go_wp2
      go_loopw [13] (fun iv wr => ∃ i : Nat, Hid (Below w2.heap.size w2 wr) ∧ i ≤ nL ∧ iv = .int .i64 (i : Int)) (fun iv _ => nL - (intOf iv).toNat)
      case atStart => exact ⟨0, Below.refl _ _, Nat.zero_le _, rfl⟩
      case round =>
        obtain ⟨i, hI, hi, rfl⟩ := hrel
        have hcc := (HPY.out.2.1.below hI.out).1
        by_cases hlt : i < nL
        · have i0 : (0 : Int) ≤ (i : Int) := by omega
          have i1 : (i : Int) < (nL : Int) := by omega
          by_cases hz : gall xs = 0
          · have CZ2 : Hid (∀ (w : World) (v : Value), Num w v (gall xs) 600 → Calls Try.prog 23 #[v] w (Keeps (.bool true) w)) := fun w v h => by
              have := zero5_any h (by omega)
              rwa [decide_eq_true hz] at this
            clear hz
            go_wp2_with fail
            refine (CZ2.out _ _ (HPY.out.2.2.2.2.1.below hI.out)).mono ?_
            rintro e w1 ⟨rfl, hb1⟩
            go_wp2_with fail
            refine wp_region_grow none [(true, 0), (true, 3), (false, 1), (false, 2), (false, 4), (true, 5), (true, 6), (true, 9), (true, 10), (false, 7), (false, 8), (false, 11), (false, 12), (false, 13), (true, 14), (true, 15)] (by kernel_rfl) (by kernel_rfl) ?_
            repeat (refine ord_pas (by rfl) (fun K hK => ?_); go_simp; refine hK _ _ (fun w' hw' => (by first | (go_simp; done) | (go_simp; intro hh; cases hh))) ?_; clear hK K)
            (refine ord_call (by rfl) (fun K hK => ?_); go_simp; refine hK _ _ ?_; clear hK K)
            refine (copies05_any (((HPY.out.2.2.2.2.2.below hI.out).nums.below hb1).below (Below.refl _ _).drew) (by omega) (fun i => Nat.le_trans (nth_replicate_le _ _ _) (by omega))).mono ?_
            rintro e w2 ⟨A_c1, c_c1, rfl, o_c1, hb2⟩
            refine ⟨_, rfl, Grow.of_below hb2, ?_⟩
            (refine ord_norm (fun K hK => ?_); go_simp; refine hK _ ?_; clear hK K)
            (refine ord_call (by rfl) (fun K hK => ?_); go_simp; refine hK _ _ ?_; clear hK K)
            refine (all_any (OwnR.nums o_c1 HLT.out.1 HLT.out.2.1 (fun _ _ h => h)) (by omega) (by omega)).mono ?_
            rintro e w3 ⟨A_p, n_p, c_p, rfl, o_p, hb3, l_p⟩
            refine ⟨_, rfl, Grow.of_below hb3, ?_⟩
            (refine ord_norm (fun K hK => ?_); go_simp; refine hK _ ?_; clear hK K)
            (refine ord_call (by rfl) (fun K hK => ?_); go_simp; refine hK _ _ ?_; clear hK K)
            refine (same5k_any o_p.rd (((((HPY.out.2.2.2.1.below hI.out).below hb1).below (Below.refl _ _).drew).below hb2).below hb3) EQ1.out (by omega)).mono ?_
            rintro e w4 ⟨rfl, hb4⟩
            refine ⟨_, rfl, Grow.of_below hb4, ?_⟩
            (refine ord_norm (fun K hK => ?_); go_simp; refine hK _ ?_; clear hK K)
            have em_f3 := ((((((HPY.out.2.1.below hI.out).below hb1).below (Below.refl _ _).drew).below hb2).below hb3).below hb4).1
            have gm_f3 := At.grow0 ((((((HPY.out.2.1.below hI.out).below hb1).below (Below.refl _ _).drew).below hb2).below hb3).below hb4)
            repeat (refine ord_pas (by rfl) (fun K hK => ?_); go_simp; refine hK _ _ (fun w' hw' => (by first | (go_simp; done) | (go_simp; intro hh; cases hh))) ?_; clear hK K)
            clear gm_f3 em_f3
            (refine ord_call (by rfl) (fun K hK => ?_); go_simp; refine hK _ _ ?_; clear hK K)
            refine (copies05_any ((((((HPY.out.2.2.2.2.2.below hI.out).nums.below hb1).below (Below.refl _ _).drew).below hb2).below hb3).below hb4) (by omega) (fun i => Nat.le_trans (nth_replicate_le _ _ _) (by omega))).mono ?_
            rintro e w5 ⟨A_c2, c_c2, rfl, o_c2, hb5⟩
            refine ⟨_, rfl, Grow.of_below hb5, ?_⟩
            (refine ord_norm (fun K hK => ?_); go_simp; refine hK _ ?_; clear hK K)
            (refine ord_call (by rfl) (fun K hK => ?_); go_simp; refine hK _ _ ?_; clear hK K)
            refine (galllcm_any (OwnR.nums o_c2 HLT.out.1 HLT.out.2.1 (fun _ _ h => h)) (by omega) (fun i hi => by rw [nth_replicate hi]; omega) (by omega)).mono ?_
            rintro e w6 ⟨A_r, n_r, c_r, rfl, o_r, hb6, l_r⟩
            refine ⟨_, rfl, Grow.of_below hb6, ?_⟩
            (refine ord_norm (fun K hK => ?_); go_simp; refine hK _ ?_; clear hK K)
            (refine ord_call (by rfl) (fun K hK => ?_); go_simp; refine hK _ _ ?_; clear hK K)
            refine (copies05_any ((((((((HPY.out.2.2.1.below hI.out).below hb1).below (Below.refl _ _).drew).below hb2).below hb3).below hb4).below hb5).below hb6) (by omega) (fun i => Nat.le_trans (nth_replicate_le _ _ _) (by omega))).mono ?_
            rintro e w7 ⟨A_c3, c_c3, rfl, o_c3, hb7⟩
            refine ⟨_, rfl, Grow.of_below hb7, ?_⟩
            (refine ord_norm (fun K hK => ?_); go_simp; refine hK _ ?_; clear hK K)
            (refine ord_call (by rfl) (fun K hK => ?_); go_simp; refine hK _ _ ?_; clear hK K)
            refine (galllcm_any (OwnR.nums o_c3 HLL.out.1 HLL.out.2.1 (fun _ _ h => h)) (by omega) (fun i hi => by rw [nth_replicate hi]; omega) (by omega)).mono ?_
            rintro e w8 ⟨A_s, n_s, c_s, rfl, o_s, hb8, l_s⟩
            refine ⟨_, rfl, Grow.of_below hb8, ?_⟩
            (refine ord_norm (fun K hK => ?_); go_simp; refine hK _ ?_; clear hK K)
            (refine ord_call (by rfl) (fun K hK => ?_); go_simp; refine hK _ _ ?_; clear hK K)
            refine (same5k_any ((o_r.rd.below hb7).below hb8) o_s.rd EQ2.out (by omega)).mono ?_
            rintro e w9 ⟨rfl, hb9⟩
            refine ⟨_, rfl, Grow.of_below hb9, ?_⟩
            (refine ord_norm (fun K hK => ?_); go_simp; refine hK _ ?_; clear hK K)
            repeat (refine ord_pas (by rfl) (fun K hK => ?_); go_simp; refine hK _ _ (fun w' hw' => (by first | (go_simp; done) | (go_simp; intro hh; cases hh))) ?_; clear hK K)
            refine ord_nil ?_
            go_wp2
            go_ret
            exact ⟨rfl, (bt (bt (bt (bt (bt (bt (bt (bt (bt (bt (bt HPY.out.1 hI.out) hb1) (Below.refl _ _).drew) hb2) hb3) hb4) hb5) hb6) hb7) hb8) hb9)⟩
          · have CZ2 : Hid (∀ (w : World) (v : Value), Num w v (gall xs) 600 → Calls Try.prog 23 #[v] w (Keeps (.bool false) w)) := fun w v h => by
              have := zero5_any h (by omega)
              rwa [decide_eq_false hz] at this
            have CZ3 : Hid (∀ (w : World) (v : Value), Num w v (nth xs i % gall xs) 600 → Calls Try.prog 23 #[v] w (Keeps (.bool true) w)) := fun w v h => by
              have := zero5_any h (by omega)
              rwa [decide_eq_true (Nat.mod_eq_zero_of_dvd (gall_dvd (by rw [HLL.out.1]; exact hlt)))] at this
            have HZ0 : Hid (0 < gall xs) := Nat.pos_of_ne_zero hz
            clear hz
            obtain ⟨b3, off3, v3, ea3, hb3, hca3, hv3⟩ := (HPY.out.2.2.1.below hI.out).at hlt
            rw [nth_replicate hlt] at hv3
            have HV3 := Lib.hid hv3
            have HC3 := Lib.hid (show At wr ⟨b3, off3 + i, none⟩ v3 from ⟨hca3, hb3⟩)
            subst ea3
            obtain ⟨_, _, _, _, rfl, _⟩ := id hv3
            clear hca3 hb3 hv3
            go_wp2_with fail
            refine (CZ2.out _ _ (HPY.out.2.2.2.2.1.below hI.out)).mono ?_
            rintro e w1 ⟨rfl, hb1⟩
            clear hcc
            have hc3 := ((HPY.out.2.1.below hI.out).below hb1).1
            have hc4 := (HC3.out.below hb1).1
            go_wp2_with fail
            refine (quo5_any (HV3.out.below hb1) ((HPY.out.2.2.2.2.1.below hI.out).below hb1) HZ0.out (by omega) (by omega) (by omega) (by omega)).mono ?_
            rintro e w2 ⟨A_q3, n_q3, c_q3, A_r3, n_r3, c_r3, rfl, o_q3, o_r3, hb2, l_q3, l_r3⟩
            clear hc3 hc4
            go_wp2_with fail
            refine (CZ3.out _ _ ((o_r3.num l_r3).mono (by omega))).mono ?_
            rintro e w3 ⟨rfl, hb3⟩
            have HNX := Lib.hid (bt (bt hb1 hb2) hb3)
            clear o_q3 o_r3
            go_wp2
            go_roundw
            case rel => exact ⟨i + 1, bt hI.out HNX.out, by omega, by go_num⟩
            case measure => simp [intOf]; omega
        · have hd2 : ¬ (i : Int) < (nL : Int) := by omega
          go_wp2_with fail
          refine wp_region_grow none [(true, 0), (true, 3), (false, 1), (false, 2), (false, 4), (true, 5), (true, 6), (true, 9), (true, 10), (false, 7), (false, 8), (false, 11), (false, 12), (false, 13), (true, 14), (true, 15)] (by kernel_rfl) (by kernel_rfl) ?_
          repeat (refine ord_pas (by rfl) (fun K hK => ?_); go_simp; refine hK _ _ (fun w' hw' => (by first | (go_simp; done) | (go_simp; intro hh; cases hh))) ?_; clear hK K)
          (refine ord_call (by rfl) (fun K hK => ?_); go_simp; refine hK _ _ ?_; clear hK K)
          refine (copies05_any ((HPY.out.2.2.2.2.2.below hI.out).nums.below (Below.refl _ _).drew) (by omega) (fun i => Nat.le_trans (nth_replicate_le _ _ _) (by omega))).mono ?_
          rintro e w1 ⟨A_c1, c_c1, rfl, o_c1, hb1⟩
          refine ⟨_, rfl, Grow.of_below hb1, ?_⟩
          (refine ord_norm (fun K hK => ?_); go_simp; refine hK _ ?_; clear hK K)
          (refine ord_call (by rfl) (fun K hK => ?_); go_simp; refine hK _ _ ?_; clear hK K)
          refine (all_any (OwnR.nums o_c1 HLT.out.1 HLT.out.2.1 (fun _ _ h => h)) (by omega) (by omega)).mono ?_
          rintro e w2 ⟨A_p, n_p, c_p, rfl, o_p, hb2, l_p⟩
          refine ⟨_, rfl, Grow.of_below hb2, ?_⟩
          (refine ord_norm (fun K hK => ?_); go_simp; refine hK _ ?_; clear hK K)
          (refine ord_call (by rfl) (fun K hK => ?_); go_simp; refine hK _ _ ?_; clear hK K)
          refine (same5k_any o_p.rd ((((HPY.out.2.2.2.1.below hI.out).below (Below.refl _ _).drew).below hb1).below hb2) EQ1.out (by omega)).mono ?_
          rintro e w3 ⟨rfl, hb3⟩
          refine ⟨_, rfl, Grow.of_below hb3, ?_⟩
          (refine ord_norm (fun K hK => ?_); go_simp; refine hK _ ?_; clear hK K)
          have em_f3 := (((((HPY.out.2.1.below hI.out).below (Below.refl _ _).drew).below hb1).below hb2).below hb3).1
          have gm_f3 := At.grow0 (((((HPY.out.2.1.below hI.out).below (Below.refl _ _).drew).below hb1).below hb2).below hb3)
          repeat (refine ord_pas (by rfl) (fun K hK => ?_); go_simp; refine hK _ _ (fun w' hw' => (by first | (go_simp; done) | (go_simp; intro hh; cases hh))) ?_; clear hK K)
          clear gm_f3 em_f3
          (refine ord_call (by rfl) (fun K hK => ?_); go_simp; refine hK _ _ ?_; clear hK K)
          refine (copies05_any (((((HPY.out.2.2.2.2.2.below hI.out).nums.below (Below.refl _ _).drew).below hb1).below hb2).below hb3) (by omega) (fun i => Nat.le_trans (nth_replicate_le _ _ _) (by omega))).mono ?_
          rintro e w4 ⟨A_c2, c_c2, rfl, o_c2, hb4⟩
          refine ⟨_, rfl, Grow.of_below hb4, ?_⟩
          (refine ord_norm (fun K hK => ?_); go_simp; refine hK _ ?_; clear hK K)
          (refine ord_call (by rfl) (fun K hK => ?_); go_simp; refine hK _ _ ?_; clear hK K)
          refine (galllcm_any (OwnR.nums o_c2 HLT.out.1 HLT.out.2.1 (fun _ _ h => h)) (by omega) (fun i hi => by rw [nth_replicate hi]; omega) (by omega)).mono ?_
          rintro e w5 ⟨A_r, n_r, c_r, rfl, o_r, hb5, l_r⟩
          refine ⟨_, rfl, Grow.of_below hb5, ?_⟩
          (refine ord_norm (fun K hK => ?_); go_simp; refine hK _ ?_; clear hK K)
          (refine ord_call (by rfl) (fun K hK => ?_); go_simp; refine hK _ _ ?_; clear hK K)
          refine (copies05_any (((((((HPY.out.2.2.1.below hI.out).below (Below.refl _ _).drew).below hb1).below hb2).below hb3).below hb4).below hb5) (by omega) (fun i => Nat.le_trans (nth_replicate_le _ _ _) (by omega))).mono ?_
          rintro e w6 ⟨A_c3, c_c3, rfl, o_c3, hb6⟩
          refine ⟨_, rfl, Grow.of_below hb6, ?_⟩
          (refine ord_norm (fun K hK => ?_); go_simp; refine hK _ ?_; clear hK K)
          (refine ord_call (by rfl) (fun K hK => ?_); go_simp; refine hK _ _ ?_; clear hK K)
          refine (galllcm_any (OwnR.nums o_c3 HLL.out.1 HLL.out.2.1 (fun _ _ h => h)) (by omega) (fun i hi => by rw [nth_replicate hi]; omega) (by omega)).mono ?_
          rintro e w7 ⟨A_s, n_s, c_s, rfl, o_s, hb7, l_s⟩
          refine ⟨_, rfl, Grow.of_below hb7, ?_⟩
          (refine ord_norm (fun K hK => ?_); go_simp; refine hK _ ?_; clear hK K)
          (refine ord_call (by rfl) (fun K hK => ?_); go_simp; refine hK _ _ ?_; clear hK K)
          refine (same5k_any ((o_r.rd.below hb6).below hb7) o_s.rd EQ2.out (by omega)).mono ?_
          rintro e w8 ⟨rfl, hb8⟩
          refine ⟨_, rfl, Grow.of_below hb8, ?_⟩
          (refine ord_norm (fun K hK => ?_); go_simp; refine hK _ ?_; clear hK K)
          repeat (refine ord_pas (by rfl) (fun K hK => ?_); go_simp; refine hK _ _ (fun w' hw' => (by first | (go_simp; done) | (go_simp; intro hh; cases hh))) ?_; clear hK K)
          refine ord_nil ?_
          go_wp2
          go_ret
          exact ⟨rfl, (bt (bt (bt (bt (bt (bt (bt (bt (bt (bt HPY.out.1 hI.out) (Below.refl _ _).drew) hb1) hb2) hb3) hb4) hb5) hb6) hb7) hb8)⟩

theorem gcdLaws_any {vA vB vK : Value} {A3 A4 : Option Addr} {n3 c3 n4 c4 a b k LA LB LK : Nat} {N : Int} {xs ys ls ms : List Nat} {w : World} (hA : Num w vA a LA) (hB : Num w vB b LB) (hK : Num w vK k LK) (h3 : Nums w A3 n3 c3 xs ls) (h4 : Nums w A4 n4 c4 ys ms) :
    Calls Try.prog 4 #[.agg #[vA, vB, vK, .slice A3 n3 c3, .slice A4 n4 c4, .int .i64 N]] w (Keeps (.bool true) w) := by
  by_cases hg : Nat.gcd (a % W ^ 30) (b % W ^ 30) = 0
  · exact gcdLaws_z hA hB hK h3 h4 hg
  · exact gcdLaws_p hA hB hK h3 h4 hg
end Go.Proofs.Ytbamhgpadfojfaa
