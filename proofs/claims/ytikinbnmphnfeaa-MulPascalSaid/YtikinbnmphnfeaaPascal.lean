/-
  MulPascal.
-/
import Derived.Test.YtikinbnmphnfeaaRowB
import Derived.Test.YtikinbnmphnfeaaPowB
import Derived.Test.YtikinbnmphnfeaaDiv64
namespace Go.Proofs.Ytikinbnmphnfeaa
open Go.RowKit
set_option linter.unusedVariables false

/-- the sum of the first k numbers of a row -/
def psum (n : Nat) : Nat → Nat
  | 0 => 0
  | k + 1 => psum n k + pas n k
theorem psum_up (n : Nat) : ∀ k, psum (n + 1) (k + 1) = psum n k + psum n (k + 1)
  | 0 => by simp only [psum, pas_zero]
  | k + 1 => by
    have h := psum_up n k
    show psum (n + 1) (k + 1) + pas (n + 1) (k + 1) = psum n (k + 1) + (psum n (k + 1) + pas n (k + 1))
    rw [h, pas_succ]
    show _ = psum n (k + 1) + (psum n (k + 1) + pas n (k + 1))
    have : psum n (k + 1) = psum n k + pas n k := rfl
    omega
theorem psum_all : ∀ n, psum n (n + 1) = 2 ^ n
  | 0 => by simp [psum, pas_zero]
  | n + 1 => by
    rw [psum_up, psum_all n, Nat.pow_succ]
    have e : psum n (n + 2) = psum n (n + 1) + pas n (n + 1) := rfl
    rw [e, psum_all n, pas_above (by omega)]
    omega
theorem dg_six : dg W (pas 4 2) = [6] := by
  have := norm_dg (b := W) (xs := [6]) W_gt (by simp [All, W_eq]) (by simp [Norm, strip])
  rw [this]
  simp [val, pas]
set_option maxHeartbeats 2000000 in
theorem mulPascal_neg {z : Int} {w : World} (hz : z < 0) : Calls Try.prog 3 #[.int .i64 z] w (Keeps (.bool true) w) := by
  have E6 := Lib.hid dg_six
  go_enter Try.func3, Try.ntmps3
  go_wp2_with fail
  refine (row_any (N := 4) rfl (by omega)).mono ?_
  rintro e wq ⟨A_r, c_r, rfl, o_r, hbq⟩
  obtain ⟨g_r, A', n', c', xs, rfl, hBg, hgl, hc, ho, hF⟩ := o_r.at (i := 2) (by omega)
  have HC := Lib.hid (And.intro ho.rd hF)
  clear ho hF
  go_wp2_with fail
  clear hc
  refine (same3_yes (ys := [6]) (HC.out.1.below ((Below.refl _ _).alloc (Nat.le_refl _) _)) (Rd.lit1 _ 6) (HC.out.2.1.trans E6.out) (by have := HC.out.1.len; have := HC.out.2.2; omega)).mono ?_
  rintro e ws ⟨rfl, hbs⟩
  go_wp2
  go_ret
  exact ⟨rfl, (bt (bt hbq ((Below.refl _ _).alloc (Nat.le_refl _) _)) hbs)⟩
set_option maxHeartbeats 2000000 in
theorem mulPascal_big {z : Int} {w : World} (hz : 160 < z) : Calls Try.prog 3 #[.int .i64 z] w (Keeps (.bool true) w) := by
  have hz2 : ¬ z < 0 := by omega
  have E6 := Lib.hid dg_six
  go_enter Try.func3, Try.ntmps3
  go_wp2_with fail
  refine (row_any (N := 4) rfl (by omega)).mono ?_
  rintro e wq ⟨A_r, c_r, rfl, o_r, hbq⟩
  obtain ⟨g_r, A', n', c', xs, rfl, hBg, hgl, hc, ho, hF⟩ := o_r.at (i := 2) (by omega)
  have HC := Lib.hid (And.intro ho.rd hF)
  clear ho hF
  go_wp2_with fail
  clear hc
  refine (same3_yes (ys := [6]) (HC.out.1.below ((Below.refl _ _).alloc (Nat.le_refl _) _)) (Rd.lit1 _ 6) (HC.out.2.1.trans E6.out) (by have := HC.out.1.len; have := HC.out.2.2; omega)).mono ?_
  rintro e ws ⟨rfl, hbs⟩
  go_wp2
  go_ret
  exact ⟨rfl, (bt (bt hbq ((Below.refl _ _).alloc (Nat.le_refl _) _)) hbs)⟩
set_option maxHeartbeats 8000000 in
set_option maxRecDepth 100000 in
theorem mulPascal_in {N : Nat} {w : World} (hN : N ≤ 160) : Calls Try.prog 3 #[.int .i64 (N : Int)] w (Keeps (.bool true) w) := by
  have z2 : ¬ ((160 : Int) < (N : Int)) := by omega
  have z3 : (((N : Int) + 1 + 1) != ((N : Int) + 2)) = false := by simp; omega
  have E6 := Lib.hid dg_six
  go_enter Try.func3, Try.ntmps3
  go_wp2_with fail
  refine (row_any (N := 4) rfl (by omega)).mono ?_
  rintro e wq ⟨A_r, c_r, rfl, o_r, hbq⟩
  obtain ⟨g_r, A', n', c', xs, rfl, hBg, hgl, hc, ho, hF⟩ := o_r.at (i := 2) (by omega)
  have HC := Lib.hid (And.intro ho.rd hF)
  clear ho hF
  go_wp2_with fail
  clear hc
  refine (same3_yes (ys := [6]) (HC.out.1.below ((Below.refl _ _).alloc (Nat.le_refl _) _)) (Rd.lit1 _ 6) (HC.out.2.1.trans E6.out) (by have := HC.out.1.len; have := HC.out.2.2; omega)).mono ?_
  rintro e ws ⟨rfl, hbs⟩
  go_wp2_with fail
  refine (row_any (N := N) rfl (by omega)).mono ?_
  rintro e wp ⟨A_p, c_p, rfl, o_p, hbp⟩
  obtain ⟨g_p, _, _, _, _, rfl, _⟩ := o_p.at (i := 0) (by omega)
  go_wp2_with fail
  refine (row_any (N := N + 1) (by omega) (by omega)).mono ?_
  rintro e wn ⟨A_n, c_n, rfl, o_n, hbn⟩
  obtain ⟨g_n, _, _, _, _, rfl, _⟩ := o_n.at (i := 0) (by omega)
  go_wp2_with fail
  go_wp2_with fail
  refine (pow_any ((Num.lit (t := 29) _ [2] (by simp) (by simp [W_eq, All])).mono (L' := 1) (by simp)) (N := N) rfl (by omega) (by omega) (by omega)).mono ?_
  rintro e w1 ⟨A_t, n_t, c_t, rfl, o_t, hb1, l_t⟩
  have HP := Lib.hid (((o_p.below hbn).below ((Below.refl _ _).alloc (Nat.le_refl _) _)).below hb1)
  have HQ := Lib.hid ((o_n.below ((Below.refl _ _).alloc (Nat.le_refl _) _)).below hb1)
  have HT := Lib.hid (And.intro (o_t.mono (bt (bt (bt (bt (bt hbq ((Below.refl _ _).alloc (Nat.le_refl _) _)) hbs) hbp) hbn) ((Below.refl _ _).alloc (Nat.le_refl _) _)).size) (bt (bt (bt (bt (bt (bt hbq ((Below.refl _ _).alloc (Nat.le_refl _) _)) hbs) hbp) hbn) ((Below.refl _ _).alloc (Nat.le_refl _) _)) hb1))
  clear o_p o_n o_t
  go_wp2_with fail
  obtain ⟨wl, hwl⟩ : ∃ wl : World, wl = w1 := ⟨_, rfl⟩
  rw [← hwl] at HP HQ HT ⊢
  clear hwl
  go_loopw [10, 11] (fun sv iv wr => ∃ (A1 : Option Addr) (n1 c1 j : Nat), Hid (Own .u64 29 w.heap.size wr A1 n1 c1 (dg W (psum N j)) ∧ Below wl.heap.size wl wr) ∧ n1 ≤ 1002 + j ∧ j ≤ N + 1 ∧ sv = .slice A1 n1 c1 ∧ iv = .int .i64 (j : Int)) (fun _ iv _ => N + 1 - (intOf iv).toNat)
  case atStart => exact ⟨none, 0, 0, 0, ⟨by rw [show psum N 0 = 0 from rfl, dg_zero W_gt]; exact Own.nil, Below.refl _ _⟩, by omega, by omega, rfl, rfl⟩
  case round =>
    obtain ⟨A1, n1, c1, j, hI, ln1, hj, rfl, rfl⟩ := hrel
    have NS := Lib.hid (hI.out.1.num (L := 1002 + j) ln1)
    by_cases hlt : j ≤ N
    · obtain ⟨M, hM⟩ : ∃ M, M = N - j := ⟨_, rfl⟩
      have hM1 : M ≤ 160 := by omega
      have hM2 : M < N + 1 := by omega
      have i3 : (N : Int) - (j : Int) = (M : Int) := by omega
      have hM3 : pas N M = pas N j := by rw [hM]; exact pas_symm hlt
      have HM3 := Lib.hid hM3
      clear hM hM3
      obtain ⟨_, A2, n2, c2, xs2, hA2, _, hl2, hc2, ho2, hF2, hb2⟩ := HP.out.at (i := j) (by omega)
      injection hA2 with hA2
      injection hA2 with hA2
      subst hA2
      obtain ⟨_, A3, n3, c3, xs3, hA3, _, hl3, hc3, ho3, hF3, hb3⟩ := HP.out.at (i := M) (by omega)
      injection hA3 with hA3
      injection hA3 with hA3
      subst hA3
      have ex : Hid (xs2 = xs3) := by show _ = _; rw [hF2, hF3, HM3.out]
      subst hF2
      have HR := Lib.hid (And.intro (ho2.below hI.out.2) (And.intro (ho3.below hI.out.2) (And.intro ex.out (show n2 ≤ 1001 by rw [← ho2.len]; exact hb2))))
      have e1 : wr.cell? ⟨g_p, j, none⟩ = some (.slice A2 n2 c2) := (hI.out.2.cell (p := ⟨g_p, j, none⟩) hl2).trans hc2
      have e2 : wr.cell? ⟨g_p, M, none⟩ = some (.slice A3 n3 c3) := (hI.out.2.cell (p := ⟨g_p, M, none⟩) hl3).trans hc3
      have hlp : g_p < wr.heap.size := by have := hI.out.2.size; omega
      clear hc2 hc3 ho2 ho3 hF3 hb2 hb3 ex hl2 hl3
      have i1 : (0 : Int) ≤ (j : Int) := by omega
      have i2 : (j : Int) < (N : Int) + 1 := by omega
      have i4 : (0 : Int) ≤ (M : Int) := by omega
      have i5 : (M : Int) < (N : Int) + 1 := by omega
      have i7 := lay (show IntKind.i64.wrap (M : Int) = (M : Int) from IntWalk.i64_in _ (by omega))
      go_wp2_with fail
      refine (nadd_any NS.out (HR.out.1.num (L := 1001) HR.out.2.2.2) (by omega) (by omega)).mono ?_
      rintro e w1 ⟨A_s2, n_s2, c_s2, rfl, o_s2, hb1, l_s2⟩
      go_wp2_with fail
      refine (binom_ok (N := N) (K := j) rfl rfl (by omega) (by omega)).mono ?_
      rintro e w2 ⟨A_b, n_b, c_b, rfl, o_b, hb2, l_b⟩
      have hsz : w.heap.size ≤ wr.heap.size := Nat.le_trans HT.out.2.size hI.out.2.size
      have HSZ := Lib.hid hsz
      clear hsz
      have f1 : w2.cell? ⟨g_p, j, none⟩ = some (.slice A2 n2 c2) := ((bt hb1 hb2).cell (p := ⟨g_p, j, none⟩) hlp).trans e1
      have f2 : w2.cell? ⟨g_p, M, none⟩ = some (.slice A3 n3 c3) := ((bt hb1 hb2).cell (p := ⟨g_p, M, none⟩) hlp).trans e2
      have t1 : ∀ w', Grow none w2.drew w' → w'.cell? ⟨g_p, j, none⟩ = some (.slice A2 n2 c2) := fun w' h => h.cell f1 (by simp)
      have t2 : ∀ w', Grow none w2.drew w' → w'.cell? ⟨g_p, M, none⟩ = some (.slice A3 n3 c3) := fun w' h => h.cell f2 (by simp)
      go_wp2_with fail
      refine wp_region_grow none [(true, 0), (true, 1), (true, 2), (true, 3), (true, 4), (true, 5), (true, 6), (true, 7), (false, 8), (true, 9), (true, 10), (true, 11), (true, 12), (true, 13), (true, 14), (true, 15), (true, 16), (true, 17), (true, 18), (true, 19), (true, 20), (true, 21), (false, 22), (true, 23), (true, 24)] (by kernel_rfl) (by kernel_rfl) ?_
      repeat (refine ord_pas (by rfl) (fun K hK => ?_); go_simp; refine hK _ _ (fun w' hw' => (by first | (go_simp; done) | (go_simp; intro hh; cases hh))) ?_; clear hK K)
      (refine ord_call (by rfl) (fun K hK => ?_); go_simp; refine hK _ _ ?_; clear hK K)
      refine (same3_yes (o_b.rd.below (Below.refl _ _).drew) (((HR.out.1.rd.below hb1).below hb2).below (Below.refl _ _).drew) rfl (by omega)).mono ?_
      rintro e w3 ⟨rfl, hb3⟩
      refine ⟨_, rfl, Grow.of_below hb3, ?_⟩
      (refine ord_norm (fun K hK => ?_); go_simp; refine hK _ ?_; clear hK K)
      clear f1 f2 t1 t2
      have f1 : w3.cell? ⟨g_p, j, none⟩ = some (.slice A2 n2 c2) := ((bt (bt (bt hb1 hb2) (Below.refl _ _).drew) hb3).cell (p := ⟨g_p, j, none⟩) hlp).trans e1
      have f2 : w3.cell? ⟨g_p, M, none⟩ = some (.slice A3 n3 c3) := ((bt (bt (bt hb1 hb2) (Below.refl _ _).drew) hb3).cell (p := ⟨g_p, M, none⟩) hlp).trans e2
      have t1 : ∀ w', Grow none w3 w' → w'.cell? ⟨g_p, j, none⟩ = some (.slice A2 n2 c2) := fun w' h => h.cell f1 (by simp)
      have t2 : ∀ w', Grow none w3 w' → w'.cell? ⟨g_p, M, none⟩ = some (.slice A3 n3 c3) := fun w' h => h.cell f2 (by simp)
      repeat (refine ord_pas (by rfl) (fun K hK => ?_); go_simp; refine hK _ _ (fun w' hw' => (by first | (go_simp; done) | (go_simp; intro hh; cases hh))) ?_; clear hK K)
      (refine ord_call (by rfl) (fun K hK => ?_); go_simp; refine hK _ _ ?_; clear hK K)
      refine (same3_yes ((((HR.out.1.rd.below hb1).below hb2).below (Below.refl _ _).drew).below hb3) ((((HR.out.2.1.rd.below hb1).below hb2).below (Below.refl _ _).drew).below hb3) HR.out.2.2.1 (by have := HR.out.2.2.2; omega)).mono ?_
      rintro e w4 ⟨rfl, hb4⟩
      refine ⟨_, rfl, Grow.of_below hb4, ?_⟩
      (refine ord_norm (fun K hK => ?_); go_simp; refine hK _ ?_; clear hK K)
      repeat (refine ord_pas (by rfl) (fun K hK => ?_); go_simp; refine hK _ _ (fun w' hw' => (by first | (go_simp; done) | (go_simp; intro hh; cases hh))) ?_; clear hK K)
      refine ord_nil ?_
      clear t1 t2 f1 f2
      rcases Nat.eq_zero_or_pos j with hj0 | hj0
      · subst hj0
        go_wp2_with fail
        refine wp_region_grow none [(true, 0), (true, 1), (true, 2), (true, 3), (true, 4), (true, 5), (true, 6), (true, 7), (true, 8), (true, 9), (true, 10), (true, 11), (true, 12), (true, 13), (true, 14), (true, 15), (false, 16), (false, 17), (true, 18), (true, 19)] (by kernel_rfl) (by kernel_rfl) ?_
        repeat (refine ord_pas (by rfl) (fun K hK => ?_); go_simp; refine hK _ _ (fun w' hw' => (by first | (go_simp; done) | (go_simp; intro hh; cases hh))) ?_; clear hK K)
        (refine ord_act (by rfl) (fun K hK => ?_); go_simp)
        refine hK _ _ ⟨Grow.refl _ _, ?_⟩
        clear hK K
        (refine ord_act (by rfl) (fun K hK => ?_); go_simp)
        refine hK _ _ ⟨Grow.refl _ _, ?_⟩
        clear hK K
        repeat (refine ord_pas (by rfl) (fun K hK => ?_); go_simp; refine hK _ _ (fun w' hw' => (by first | (go_simp; done) | (go_simp; intro hh; cases hh))) ?_; clear hK K)
        refine ord_nil ?_
        have HW := Lib.hid (And.intro ((((((o_s2.below hb2).below (Below.refl _ _).drew).below hb3).below hb4).below (Below.refl _ _).drew).mono HSZ.out) (bt hI.out.2 (bt (bt (bt (bt (bt hb1 hb2) (Below.refl _ _).drew) hb3) hb4) (Below.refl _ _).drew)))
        go_wp2
        go_roundw
        case rel => exact ⟨A_s2, n_s2, c_s2, 0 + 1, ⟨HW.out.1, HW.out.2⟩, by omega, by omega, rfl, by go_num⟩
        case measure => simp [intOf]
      · obtain ⟨m, hm⟩ : ∃ m, j = m + 1 := ⟨j - 1, by omega⟩
        obtain ⟨_, A4, n4, c4, xs4, hA4, _, hl4, hc4, ho4, hF4, hb4'⟩ := HQ.out.at (i := j) (by omega)
        injection hA4 with hA4
        injection hA4 with hA4
        subst hA4
        obtain ⟨_, A5, n5, c5, xs5, hA5, _, hl5, hc5, ho5, hF5, hb5'⟩ := HP.out.at (i := m) (by omega)
        injection hA5 with hA5
        injection hA5 with hA5
        subst hA5
        subst hF4 hF5
        have HE : Hid (dg W (pas (N + 1) j) = dg W (pas N m + pas N j)) := by show _ = _; rw [hm, pas_succ]
        have HL4 : Hid (n4 ≤ 1001) := by show _ ≤ _; rw [← ho4.len]; exact hb4'
        have HL5 : Hid (n5 ≤ 1001) := by show _ ≤ _; rw [← ho5.len]; exact hb5'
        have R4 := Lib.hid ((ho4.below hI.out.2).rd.below (bt (bt (bt (bt hb1 hb2) (Below.refl _ _).drew) hb3) hb4))
        have R5 := Lib.hid (((ho5.below hI.out.2).num (L := 1001) HL5.out).below (bt (bt (bt (bt hb1 hb2) (Below.refl _ _).drew) hb3) hb4))
        have hln : g_n < wr.heap.size := by have := hI.out.2.size; omega
        have f1 : w4.cell? ⟨g_p, j, none⟩ = some (.slice A2 n2 c2) := ((bt (bt (bt (bt hb1 hb2) (Below.refl _ _).drew) hb3) hb4).cell (p := ⟨g_p, j, none⟩) hlp).trans e1
        have f4 : w4.cell? ⟨g_n, j, none⟩ = some (.slice A4 n4 c4) := ((bt (bt (bt (bt hb1 hb2) (Below.refl _ _).drew) hb3) hb4).cell (p := ⟨g_n, j, none⟩) hln).trans ((hI.out.2.cell (p := ⟨g_n, j, none⟩) hl4).trans hc4)
        have f5 : w4.cell? ⟨g_p, m, none⟩ = some (.slice A5 n5 c5) := ((bt (bt (bt (bt hb1 hb2) (Below.refl _ _).drew) hb3) hb4).cell (p := ⟨g_p, m, none⟩) hlp).trans ((hI.out.2.cell (p := ⟨g_p, m, none⟩) hl5).trans hc5)
        have t1 : ∀ w', Grow none w4.drew w' → w'.cell? ⟨g_p, j, none⟩ = some (.slice A2 n2 c2) := fun w' h => h.cell f1 (by simp)
        have t4 : ∀ w', Grow none w4.drew w' → w'.cell? ⟨g_n, j, none⟩ = some (.slice A4 n4 c4) := fun w' h => h.cell f4 (by simp)
        have t5 : ∀ w', Grow none w4.drew w' → w'.cell? ⟨g_p, m, none⟩ = some (.slice A5 n5 c5) := fun w' h => h.cell f5 (by simp)
        have k0 : (0 : Int) < (j : Int) := by omega
        have k1 : (j : Int) - 1 = (m : Int) := by omega
        have k2 : (0 : Int) ≤ (m : Int) := by omega
        have k3 : (m : Int) < (N : Int) + 1 := by omega
        have k4 : (j : Int) < (N : Int) + 1 + 1 := by omega
        have k5 := lay (show IntKind.i64.wrap (m : Int) = (m : Int) from IntWalk.i64_in _ (by omega))
        have k6 : (1 : Int) ≤ (j : Int) := by omega
        clear hm hc4 hc5 ho4 ho5 hb4' hb5' hl4 hl5 e1 e2
        go_wp2_with fail
        refine wp_region_grow none [(true, 0), (true, 1), (true, 2), (true, 3), (true, 4), (true, 5), (true, 6), (true, 7), (true, 8), (true, 9), (true, 10), (true, 11), (true, 12), (true, 13), (true, 14), (true, 15), (false, 16), (false, 17), (true, 18), (true, 19)] (by kernel_rfl) (by kernel_rfl) ?_
        repeat (refine ord_pas (by rfl) (fun K hK => ?_); go_simp; refine hK _ _ (fun w' hw' => (by first | (go_simp; done) | (go_simp; intro hh; cases hh))) ?_; clear hK K)
        (refine ord_call (by rfl) (fun K hK => ?_); go_simp; refine hK _ _ ?_; clear hK K)
        refine (nadd_any (R5.out.below (Below.refl _ _).drew) (((((((HR.out.1.num (L := 1001) HR.out.2.2.2).below hb1).below hb2).below (Below.refl _ _).drew).below hb3).below hb4).below (Below.refl _ _).drew) (by omega) (by omega)).mono ?_
        rintro e w5 ⟨A_x, n_x, c_x, rfl, o_x, hb5, l_x⟩
        refine ⟨_, rfl, Grow.of_below hb5, ?_⟩
        (refine ord_norm (fun K hK => ?_); go_simp; refine hK _ ?_; clear hK K)
        (refine ord_call (by rfl) (fun K hK => ?_); go_simp; refine hK _ _ ?_; clear hK K)
        refine (same3_yes ((R4.out.below (Below.refl _ _).drew).below hb5) o_x.rd HE.out (by have := HL4.out; omega)).mono ?_
        rintro e w6 ⟨rfl, hb6⟩
        refine ⟨_, rfl, Grow.of_below hb6, ?_⟩
        (refine ord_norm (fun K hK => ?_); go_simp; refine hK _ ?_; clear hK K)
        repeat (refine ord_pas (by rfl) (fun K hK => ?_); go_simp; refine hK _ _ (fun w' hw' => (by first | (go_simp; done) | (go_simp; intro hh; cases hh))) ?_; clear hK K)
        refine ord_nil ?_
        clear f1 f4 f5 t1 t4 t5 k1
        have HW := Lib.hid (And.intro ((((((((o_s2.below hb2).below (Below.refl _ _).drew).below hb3).below hb4).below (Below.refl _ _).drew).below hb5).below hb6).mono HSZ.out) (bt hI.out.2 (bt (bt (bt (bt (bt (bt (bt hb1 hb2) (Below.refl _ _).drew) hb3) hb4) (Below.refl _ _).drew) hb5) hb6)))
        go_wp2
        go_roundw
        case rel => exact ⟨A_s2, n_s2, c_s2, j + 1, ⟨HW.out.1, HW.out.2⟩, by omega, by omega, rfl, by go_num⟩
        case measure => simp [intOf]; omega
    · obtain rfl : j = N + 1 := by omega
      have HX : Hid (dg W (psum N (N + 1)) = dg W (val W [2] ^ N)) := by show _ = _; rw [psum_all]; rfl
      go_wp2_with fail
      refine (same3_yes hI.out.1.rd (HT.out.1.below hI.out.2).rd HX.out (by omega)).mono ?_
      rintro e wf ⟨rfl, hbf⟩
      go_wp2
      go_ret
      exact ⟨rfl, bt (bt HT.out.2 hI.out.2) hbf⟩
theorem mulPascal_any {z : Int} {w : World} : Calls Try.prog 3 #[.int .i64 z] w (Keeps (.bool true) w) := by
  by_cases h1 : z < 0
  · exact mulPascal_neg h1
  by_cases h2 : 160 < z
  · exact mulPascal_big h2
  obtain ⟨N, rfl⟩ := Int.eq_ofNat_of_zero_le (show 0 ≤ z by omega)
  exact mulPascal_in (by omega)
end Go.Proofs.Ytikinbnmphnfeaa
