/-
  MulExponents, MulPowers.
-/
import Derived.Test.YtgiecdokjmcogaaPowB
import Derived.Test.YtgiecdokjmcogaaLimbD
namespace Go.Proofs.Ytgiecdokjmcogaa
open Go.RowKit
set_option linter.unusedVariables false

theorem two64 : dg W (val W [2] ^ 64) = [0, 1] := by
  have e : val W [2] ^ 64 = val W [0, 1] := by decide
  rw [e]
  exact (norm_dg W_gt (xs := [0, 1]) (by simp [All, W_eq]) (by simp [Norm, strip])).symm

def expOk (n1 n2 : Nat) (z1 z2 : Int) : Prop := 0 ≤ z1 ∧ 0 ≤ z2 ∧ z1 ≤ 200 ∧ z2 ≤ 200 ∧ ((n1 : Int) + (n2 : Int)) * (z1 + z2) ≤ 300

set_option maxHeartbeats 4000000 in
set_option maxRecDepth 100000 in
theorem mulExponents_yes {A A2 : Option Addr} {n1 c1 n2 c2 x y M N : Nat} {w : World} (h : Num w (.slice A n1 c1) x n1) (h' : Num w (.slice A2 n2 c2) y n2) (hM : M ≤ 200) (hN : N ≤ 200) (hn1 : n1 ≤ 1048576) (hn2 : n2 ≤ 1048576) (hp : (n1 + n2) * (M + N) ≤ 300) :
    Calls Try.prog 7 #[.slice A n1 c1, .slice A2 n2 c2, .agg #[.int .i64 (M : Int), .int .i64 (N : Int)]] w (Keeps (.bool true) w) := by
  have H := Lib.hid h
  have H' := Lib.hid h'
  have HQ := Lib.hid two64
  have p1 : n1 * M ≤ 300 := Nat.le_trans (Nat.mul_le_mul (by omega) (by omega)) hp
  have p2 : n1 * N ≤ 300 := Nat.le_trans (Nat.mul_le_mul (by omega) (by omega)) hp
  have p3 : n1 * (M + N) ≤ 300 := Nat.le_trans (Nat.mul_le_mul (by omega) (by omega)) hp
  have p4 : n2 * M ≤ 300 := Nat.le_trans (Nat.mul_le_mul (by omega) (by omega)) hp
  have p5 : (n1 + n2) * M ≤ 300 := Nat.le_trans (Nat.mul_le_mul (by omega) (by omega)) hp
  have i1 : ((n1 : Int) + (n2 : Int)) * ((M : Int) + (N : Int)) ≤ 300 := by
    have : (((n1 + n2) * (M + N) : Nat) : Int) ≤ 300 := by omega
    simpa [Int.natCast_mul, Int.natCast_add] using this
  have i2 : 0 ≤ ((n1 : Int) + (n2 : Int)) * ((M : Int) + (N : Int)) := by
    have : (0 : Int) ≤ (((n1 + n2) * (M + N) : Nat) : Int) := by omega
    simpa [Int.natCast_mul, Int.natCast_add] using this
  have P1 := Lib.hid p1
  have P2 := Lib.hid p2
  have P3 := Lib.hid p3
  have P4 := Lib.hid p4
  have P5 := Lib.hid p5
  clear h h' hp p1 p2 p3 p4 p5
  go_enter Try.func7, Try.ntmps7
  go_wp2_with fail
  refine (pow_any (Num.lit (t := 25) _ [2] (by simp) (by simp [W_eq, All])) (N := 64) rfl (by omega) (by simp) (by simp)).mono ?_
  rintro e w1 ⟨A_t, n_t, c_t, rfl, o_t, hb1, l_t⟩
  rw [HQ.out] at o_t
  go_wp2_with fail
  refine (same3_yes (o_t.rd.alloc _) (Rd.litn (k := .u64) (t := 25) _ [0, 1] rfl (by decide)) rfl (by simp at l_t; omega)).mono ?_
  rintro e wz ⟨rfl, hbz⟩
  have hc0 := (((((At.box (i := 0) _ _ rfl).below ((Below.refl _ _).alloc (Nat.le_refl _) _)).below hb1).below ((Below.refl _ _).alloc (Nat.le_refl _) _)).below hbz).1
  have hc1 := (((((At.box (i := 1) _ _ rfl).below ((Below.refl _ _).alloc (Nat.le_refl _) _)).below hb1).below ((Below.refl _ _).alloc (Nat.le_refl _) _)).below hbz).1
  have hc0' : wz.cell? ⟨w.heap.size, 0, none⟩ = some (.int .i64 (M : Int)) := hc0
  have hc1' : wz.cell? ⟨w.heap.size, 1, none⟩ = some (.int .i64 (N : Int)) := hc1
  have hg0 : ∀ w', Grow none wz.drew w' → w'.cell? ⟨w.heap.size, 0, none⟩ = some (.int .i64 (M : Int)) := fun w' h => h.cell hc0' (by simp)
  have hg1 : ∀ w', Grow none wz.drew w' → w'.cell? ⟨w.heap.size, 1, none⟩ = some (.int .i64 (N : Int)) := fun w' h => h.cell hc1' (by simp)
  clear hc0 hc1
  go_wp2_with fail
  refine wp_region_grow none [(true, 0), (true, 1), (true, 2), (true, 3), (true, 4), (true, 5)] (by kernel_rfl) (by kernel_rfl) ?_
  repeat (refine ord_pas (by rfl) (fun K hK => ?_); go_simp; refine hK _ _ (fun w' hw' => (by go_simp)) ?_; clear hK K)
  refine ord_nil ?_
  clear hg0 hg1
  have d1 : decide ((M : Int) < 0) = false := by simp
  have d2 : decide ((N : Int) < 0) = false := by simp
  have d3 : decide (200 < (M : Int)) = false := by simp; omega
  have d4 : decide (200 < (N : Int)) = false := by simp; omega
  have d5 : decide (300 < ((n1 : Int) + (n2 : Int)) * ((M : Int) + (N : Int))) = false := by simp; omega
  go_wp2_with fail
  refine (pow_any ((((((H.out.below ((Below.refl _ _).alloc (Nat.le_refl _) _)).below ((Below.refl _ _).alloc (Nat.le_refl _) _)).below hb1).below ((Below.refl _ _).alloc (Nat.le_refl _) _)).below hbz).below (below_drewN _ 1)) (N := M) rfl (by omega) (by omega) (by have := P1.out; omega)).mono ?_
  rintro e w2 ⟨A_am, n_am, c_am, rfl, o_am, hb2, l_am⟩
  go_wp2_with fail
  refine (pow_any (((((((H.out.below ((Below.refl _ _).alloc (Nat.le_refl _) _)).below ((Below.refl _ _).alloc (Nat.le_refl _) _)).below hb1).below ((Below.refl _ _).alloc (Nat.le_refl _) _)).below hbz).below (below_drewN _ 1)).below hb2) (N := N) rfl (by omega) (by omega) (by have := P2.out; omega)).mono ?_
  rintro e w3 ⟨A_an, n_an, c_an, rfl, o_an, hb3, l_an⟩
  go_wp2_with fail
  refine (pow_any ((((((((H.out.below ((Below.refl _ _).alloc (Nat.le_refl _) _)).below ((Below.refl _ _).alloc (Nat.le_refl _) _)).below hb1).below ((Below.refl _ _).alloc (Nat.le_refl _) _)).below hbz).below (below_drewN _ 1)).below hb2).below hb3) (N := M + N) (by omega) (by omega) (by omega) (by have := P3.out; omega)).mono ?_
  rintro e w4 ⟨A_all, n_all, c_all, rfl, o_all, hb4, l_all⟩
  go_wp2_with fail
  refine (pow_any (((((((((H'.out.below ((Below.refl _ _).alloc (Nat.le_refl _) _)).below ((Below.refl _ _).alloc (Nat.le_refl _) _)).below hb1).below ((Below.refl _ _).alloc (Nat.le_refl _) _)).below hbz).below (below_drewN _ 1)).below hb2).below hb3).below hb4) (N := M) rfl (by omega) (by omega) (by have := P4.out; omega)).mono ?_
  rintro e w5 ⟨A_bm, n_bm, c_bm, rfl, o_bm, hb5, l_bm⟩
  go_wp2_with fail
  refine (mul_any ((((((((((H.out.below ((Below.refl _ _).alloc (Nat.le_refl _) _)).below ((Below.refl _ _).alloc (Nat.le_refl _) _)).below hb1).below ((Below.refl _ _).alloc (Nat.le_refl _) _)).below hbz).below (below_drewN _ 1)).below hb2).below hb3).below hb4).below hb5) ((((((((((H'.out.below ((Below.refl _ _).alloc (Nat.le_refl _) _)).below ((Below.refl _ _).alloc (Nat.le_refl _) _)).below hb1).below ((Below.refl _ _).alloc (Nat.le_refl _) _)).below hbz).below (below_drewN _ 1)).below hb2).below hb3).below hb4).below hb5) (by omega) (by omega)).mono ?_
  rintro e w6 ⟨A_ab, n_ab, c_ab, rfl, o_ab, hb6, l_ab⟩
  go_wp2_with fail
  refine (pow_any (o_ab.num l_ab) (N := M) rfl (by omega) (by omega) (by have := P5.out; omega)).mono ?_
  rintro e w7 ⟨A_abm, n_abm, c_abm, rfl, o_abm, hb7, l_abm⟩
  go_wp2_with fail
  refine (mul_any ((((((o_am.num l_am).below hb3).below hb4).below hb5).below hb6).below hb7) (((((o_an.num l_an).below hb4).below hb5).below hb6).below hb7) (by have := P1.out; omega) (by have := P2.out; omega)).mono ?_
  rintro e w8 ⟨A_s1, n_s1, c_s1, rfl, o_s1, hb8, l_s1⟩
  go_wp2_with fail
  refine (same3_yes o_s1.rd ((((o_all.rd.below hb5).below hb6).below hb7).below hb8) (by rw [Nat.pow_add]) (by have := P1.out; have := P2.out; omega)).mono ?_
  rintro e w9 ⟨rfl, hb9⟩
  go_wp2_with fail
  refine (mul_any ((((((((o_am.num l_am).below hb3).below hb4).below hb5).below hb6).below hb7).below hb8).below hb9) (((((o_bm.num l_bm).below hb6).below hb7).below hb8).below hb9) (by have := P1.out; omega) (by have := P4.out; omega)).mono ?_
  rintro e w10 ⟨A_s2, n_s2, c_s2, rfl, o_s2, hb10, l_s2⟩
  go_wp2_with fail
  refine (same3_yes o_s2.rd (((o_abm.rd.below hb8).below hb9).below hb10) (by rw [Nat.mul_pow]) (by have := P1.out; have := P4.out; omega)).mono ?_
  rintro e w11 ⟨rfl, hb11⟩
  go_wp2
  go_ret
  exact ⟨rfl, (bt (bt (bt (bt (bt (bt (bt (bt (bt (bt (bt (bt (bt (bt (bt ((Below.refl _ _).alloc (Nat.le_refl _) _) ((Below.refl _ _).alloc (Nat.le_refl _) _)) hb1) ((Below.refl _ _).alloc (Nat.le_refl _) _)) hbz) (below_drewN _ 1)) hb2) hb3) hb4) hb5) hb6) hb7) hb8) hb9) hb10) hb11)⟩

set_option maxHeartbeats 4000000 in
set_option maxRecDepth 100000 in
theorem exp_no1 {A A2 : Option Addr} {n1 c1 n2 c2 : Nat} {z1 z2 : Int} {w : World} (hn1 : n1 ≤ 1048576) (hn2 : n2 ≤ 1048576) (hz : z1 < 0) :
    Calls Try.prog 7 #[.slice A n1 c1, .slice A2 n2 c2, .agg #[.int .i64 z1, .int .i64 z2]] w (Keeps (.bool true) w) := by
  have HQ := Lib.hid two64
  have d1 : decide (z1 < 0) = true := by simp; omega
  clear hz
  go_enter Try.func7, Try.ntmps7
  go_wp2_with fail
  refine (pow_any (Num.lit (t := 25) _ [2] (by simp) (by simp [W_eq, All])) (N := 64) rfl (by omega) (by simp) (by simp)).mono ?_
  rintro e w1 ⟨A_t, n_t, c_t, rfl, o_t, hb1, l_t⟩
  rw [HQ.out] at o_t
  go_wp2_with fail
  refine (same3_yes (o_t.rd.alloc _) (Rd.litn (k := .u64) (t := 25) _ [0, 1] rfl (by decide)) rfl (by simp at l_t; omega)).mono ?_
  rintro e wz ⟨rfl, hbz⟩
  have hc0 := (((((At.box (i := 0) _ _ rfl).below ((Below.refl _ _).alloc (Nat.le_refl _) _)).below hb1).below ((Below.refl _ _).alloc (Nat.le_refl _) _)).below hbz).1
  have hc1 := (((((At.box (i := 1) _ _ rfl).below ((Below.refl _ _).alloc (Nat.le_refl _) _)).below hb1).below ((Below.refl _ _).alloc (Nat.le_refl _) _)).below hbz).1
  have hc0' : wz.cell? ⟨w.heap.size, 0, none⟩ = some (.int .i64 z1) := hc0
  have hc1' : wz.cell? ⟨w.heap.size, 1, none⟩ = some (.int .i64 z2) := hc1
  have hg0 : ∀ w', Grow none wz.drew w' → w'.cell? ⟨w.heap.size, 0, none⟩ = some (.int .i64 z1) := fun w' h => h.cell hc0' (by simp)
  have hg1 : ∀ w', Grow none wz.drew w' → w'.cell? ⟨w.heap.size, 1, none⟩ = some (.int .i64 z2) := fun w' h => h.cell hc1' (by simp)
  clear hc0 hc1
  go_wp2_with fail
  refine wp_region_grow none [(true, 0), (true, 1), (true, 2), (true, 3), (true, 4), (true, 5)] (by kernel_rfl) (by kernel_rfl) ?_
  repeat (refine ord_pas (by rfl) (fun K hK => ?_); go_simp; refine hK _ _ (fun w' hw' => (by go_simp)) ?_; clear hK K)
  refine ord_nil ?_
  clear hg0 hg1
  go_wp2
  go_ret
  exact ⟨rfl, (bt (bt (bt (bt (bt ((Below.refl _ _).alloc (Nat.le_refl _) _) ((Below.refl _ _).alloc (Nat.le_refl _) _)) hb1) ((Below.refl _ _).alloc (Nat.le_refl _) _)) hbz) (below_drewN _ 1))⟩
set_option maxHeartbeats 4000000 in
set_option maxRecDepth 100000 in
theorem exp_no2 {A A2 : Option Addr} {n1 c1 n2 c2 : Nat} {z1 z2 : Int} {w : World} (hn1 : n1 ≤ 1048576) (hn2 : n2 ≤ 1048576) (hz : 0 ≤ z1 ∧ z2 < 0) :
    Calls Try.prog 7 #[.slice A n1 c1, .slice A2 n2 c2, .agg #[.int .i64 z1, .int .i64 z2]] w (Keeps (.bool true) w) := by
  have HQ := Lib.hid two64
  have d1 : decide (z1 < 0) = false := by simp; omega
  have d2 : decide (z2 < 0) = true := by simp; omega
  clear hz
  go_enter Try.func7, Try.ntmps7
  go_wp2_with fail
  refine (pow_any (Num.lit (t := 25) _ [2] (by simp) (by simp [W_eq, All])) (N := 64) rfl (by omega) (by simp) (by simp)).mono ?_
  rintro e w1 ⟨A_t, n_t, c_t, rfl, o_t, hb1, l_t⟩
  rw [HQ.out] at o_t
  go_wp2_with fail
  refine (same3_yes (o_t.rd.alloc _) (Rd.litn (k := .u64) (t := 25) _ [0, 1] rfl (by decide)) rfl (by simp at l_t; omega)).mono ?_
  rintro e wz ⟨rfl, hbz⟩
  have hc0 := (((((At.box (i := 0) _ _ rfl).below ((Below.refl _ _).alloc (Nat.le_refl _) _)).below hb1).below ((Below.refl _ _).alloc (Nat.le_refl _) _)).below hbz).1
  have hc1 := (((((At.box (i := 1) _ _ rfl).below ((Below.refl _ _).alloc (Nat.le_refl _) _)).below hb1).below ((Below.refl _ _).alloc (Nat.le_refl _) _)).below hbz).1
  have hc0' : wz.cell? ⟨w.heap.size, 0, none⟩ = some (.int .i64 z1) := hc0
  have hc1' : wz.cell? ⟨w.heap.size, 1, none⟩ = some (.int .i64 z2) := hc1
  have hg0 : ∀ w', Grow none wz.drew w' → w'.cell? ⟨w.heap.size, 0, none⟩ = some (.int .i64 z1) := fun w' h => h.cell hc0' (by simp)
  have hg1 : ∀ w', Grow none wz.drew w' → w'.cell? ⟨w.heap.size, 1, none⟩ = some (.int .i64 z2) := fun w' h => h.cell hc1' (by simp)
  clear hc0 hc1
  go_wp2_with fail
  refine wp_region_grow none [(true, 0), (true, 1), (true, 2), (true, 3), (true, 4), (true, 5)] (by kernel_rfl) (by kernel_rfl) ?_
  repeat (refine ord_pas (by rfl) (fun K hK => ?_); go_simp; refine hK _ _ (fun w' hw' => (by go_simp)) ?_; clear hK K)
  refine ord_nil ?_
  clear hg0 hg1
  go_wp2
  go_ret
  exact ⟨rfl, (bt (bt (bt (bt (bt ((Below.refl _ _).alloc (Nat.le_refl _) _) ((Below.refl _ _).alloc (Nat.le_refl _) _)) hb1) ((Below.refl _ _).alloc (Nat.le_refl _) _)) hbz) (below_drewN _ 1))⟩
set_option maxHeartbeats 4000000 in
set_option maxRecDepth 100000 in
theorem exp_no3 {A A2 : Option Addr} {n1 c1 n2 c2 : Nat} {z1 z2 : Int} {w : World} (hn1 : n1 ≤ 1048576) (hn2 : n2 ≤ 1048576) (hz : 0 ≤ z1 ∧ 0 ≤ z2 ∧ 200 < z1) :
    Calls Try.prog 7 #[.slice A n1 c1, .slice A2 n2 c2, .agg #[.int .i64 z1, .int .i64 z2]] w (Keeps (.bool true) w) := by
  have HQ := Lib.hid two64
  have d1 : decide (z1 < 0) = false := by simp; omega
  have d2 : decide (z2 < 0) = false := by simp; omega
  have d3 : decide (200 < z1) = true := by simp; omega
  clear hz
  go_enter Try.func7, Try.ntmps7
  go_wp2_with fail
  refine (pow_any (Num.lit (t := 25) _ [2] (by simp) (by simp [W_eq, All])) (N := 64) rfl (by omega) (by simp) (by simp)).mono ?_
  rintro e w1 ⟨A_t, n_t, c_t, rfl, o_t, hb1, l_t⟩
  rw [HQ.out] at o_t
  go_wp2_with fail
  refine (same3_yes (o_t.rd.alloc _) (Rd.litn (k := .u64) (t := 25) _ [0, 1] rfl (by decide)) rfl (by simp at l_t; omega)).mono ?_
  rintro e wz ⟨rfl, hbz⟩
  have hc0 := (((((At.box (i := 0) _ _ rfl).below ((Below.refl _ _).alloc (Nat.le_refl _) _)).below hb1).below ((Below.refl _ _).alloc (Nat.le_refl _) _)).below hbz).1
  have hc1 := (((((At.box (i := 1) _ _ rfl).below ((Below.refl _ _).alloc (Nat.le_refl _) _)).below hb1).below ((Below.refl _ _).alloc (Nat.le_refl _) _)).below hbz).1
  have hc0' : wz.cell? ⟨w.heap.size, 0, none⟩ = some (.int .i64 z1) := hc0
  have hc1' : wz.cell? ⟨w.heap.size, 1, none⟩ = some (.int .i64 z2) := hc1
  have hg0 : ∀ w', Grow none wz.drew w' → w'.cell? ⟨w.heap.size, 0, none⟩ = some (.int .i64 z1) := fun w' h => h.cell hc0' (by simp)
  have hg1 : ∀ w', Grow none wz.drew w' → w'.cell? ⟨w.heap.size, 1, none⟩ = some (.int .i64 z2) := fun w' h => h.cell hc1' (by simp)
  clear hc0 hc1
  go_wp2_with fail
  refine wp_region_grow none [(true, 0), (true, 1), (true, 2), (true, 3), (true, 4), (true, 5)] (by kernel_rfl) (by kernel_rfl) ?_
  repeat (refine ord_pas (by rfl) (fun K hK => ?_); go_simp; refine hK _ _ (fun w' hw' => (by go_simp)) ?_; clear hK K)
  refine ord_nil ?_
  clear hg0 hg1
  go_wp2
  go_ret
  exact ⟨rfl, (bt (bt (bt (bt (bt ((Below.refl _ _).alloc (Nat.le_refl _) _) ((Below.refl _ _).alloc (Nat.le_refl _) _)) hb1) ((Below.refl _ _).alloc (Nat.le_refl _) _)) hbz) (below_drewN _ 1))⟩
set_option maxHeartbeats 4000000 in
set_option maxRecDepth 100000 in
theorem exp_no4 {A A2 : Option Addr} {n1 c1 n2 c2 : Nat} {z1 z2 : Int} {w : World} (hn1 : n1 ≤ 1048576) (hn2 : n2 ≤ 1048576) (hz : 0 ≤ z1 ∧ 0 ≤ z2 ∧ z1 ≤ 200 ∧ 200 < z2) :
    Calls Try.prog 7 #[.slice A n1 c1, .slice A2 n2 c2, .agg #[.int .i64 z1, .int .i64 z2]] w (Keeps (.bool true) w) := by
  have HQ := Lib.hid two64
  have d1 : decide (z1 < 0) = false := by simp; omega
  have d2 : decide (z2 < 0) = false := by simp; omega
  have d3 : decide (200 < z1) = false := by simp; omega
  have d4 : decide (200 < z2) = true := by simp; omega
  clear hz
  go_enter Try.func7, Try.ntmps7
  go_wp2_with fail
  refine (pow_any (Num.lit (t := 25) _ [2] (by simp) (by simp [W_eq, All])) (N := 64) rfl (by omega) (by simp) (by simp)).mono ?_
  rintro e w1 ⟨A_t, n_t, c_t, rfl, o_t, hb1, l_t⟩
  rw [HQ.out] at o_t
  go_wp2_with fail
  refine (same3_yes (o_t.rd.alloc _) (Rd.litn (k := .u64) (t := 25) _ [0, 1] rfl (by decide)) rfl (by simp at l_t; omega)).mono ?_
  rintro e wz ⟨rfl, hbz⟩
  have hc0 := (((((At.box (i := 0) _ _ rfl).below ((Below.refl _ _).alloc (Nat.le_refl _) _)).below hb1).below ((Below.refl _ _).alloc (Nat.le_refl _) _)).below hbz).1
  have hc1 := (((((At.box (i := 1) _ _ rfl).below ((Below.refl _ _).alloc (Nat.le_refl _) _)).below hb1).below ((Below.refl _ _).alloc (Nat.le_refl _) _)).below hbz).1
  have hc0' : wz.cell? ⟨w.heap.size, 0, none⟩ = some (.int .i64 z1) := hc0
  have hc1' : wz.cell? ⟨w.heap.size, 1, none⟩ = some (.int .i64 z2) := hc1
  have hg0 : ∀ w', Grow none wz.drew w' → w'.cell? ⟨w.heap.size, 0, none⟩ = some (.int .i64 z1) := fun w' h => h.cell hc0' (by simp)
  have hg1 : ∀ w', Grow none wz.drew w' → w'.cell? ⟨w.heap.size, 1, none⟩ = some (.int .i64 z2) := fun w' h => h.cell hc1' (by simp)
  clear hc0 hc1
  go_wp2_with fail
  refine wp_region_grow none [(true, 0), (true, 1), (true, 2), (true, 3), (true, 4), (true, 5)] (by kernel_rfl) (by kernel_rfl) ?_
  repeat (refine ord_pas (by rfl) (fun K hK => ?_); go_simp; refine hK _ _ (fun w' hw' => (by go_simp)) ?_; clear hK K)
  refine ord_nil ?_
  clear hg0 hg1
  go_wp2
  go_ret
  exact ⟨rfl, (bt (bt (bt (bt (bt ((Below.refl _ _).alloc (Nat.le_refl _) _) ((Below.refl _ _).alloc (Nat.le_refl _) _)) hb1) ((Below.refl _ _).alloc (Nat.le_refl _) _)) hbz) (below_drewN _ 1))⟩
set_option maxHeartbeats 4000000 in
set_option maxRecDepth 100000 in
theorem exp_no5 {A A2 : Option Addr} {n1 c1 n2 c2 : Nat} {z1 z2 : Int} {w : World} (hn1 : n1 ≤ 1048576) (hn2 : n2 ≤ 1048576) (hz : 0 ≤ z1 ∧ 0 ≤ z2 ∧ z1 ≤ 200 ∧ z2 ≤ 200 ∧ 300 < ((n1 : Int) + (n2 : Int)) * (z1 + z2)) :
    Calls Try.prog 7 #[.slice A n1 c1, .slice A2 n2 c2, .agg #[.int .i64 z1, .int .i64 z2]] w (Keeps (.bool true) w) := by
  have HQ := Lib.hid two64
  have d1 : decide (z1 < 0) = false := by simp; omega
  have d2 : decide (z2 < 0) = false := by simp; omega
  have d3 : decide (200 < z1) = false := by simp; omega
  have d4 : decide (200 < z2) = false := by simp; omega
  have d5 : decide (300 < ((n1 : Int) + (n2 : Int)) * (z1 + z2)) = true := by simp; omega
  have z0 : z1 + z2 ≤ 400 := by omega
  have z00 : 0 ≤ z1 + z2 := by omega
  have p1 : ((n1 : Int) + (n2 : Int)) * (z1 + z2) ≤ ((n1 : Int) + (n2 : Int)) * 400 := Int.mul_le_mul_of_nonneg_left z0 (by omega)
  have p2 : 0 ≤ ((n1 : Int) + (n2 : Int)) * (z1 + z2) := by omega
  have p3 : ((n1 : Int) + (n2 : Int)) * (z1 + z2) ≤ 838860800 := by omega
  clear p1
  clear hz
  go_enter Try.func7, Try.ntmps7
  go_wp2_with fail
  refine (pow_any (Num.lit (t := 25) _ [2] (by simp) (by simp [W_eq, All])) (N := 64) rfl (by omega) (by simp) (by simp)).mono ?_
  rintro e w1 ⟨A_t, n_t, c_t, rfl, o_t, hb1, l_t⟩
  rw [HQ.out] at o_t
  go_wp2_with fail
  refine (same3_yes (o_t.rd.alloc _) (Rd.litn (k := .u64) (t := 25) _ [0, 1] rfl (by decide)) rfl (by simp at l_t; omega)).mono ?_
  rintro e wz ⟨rfl, hbz⟩
  have hc0 := (((((At.box (i := 0) _ _ rfl).below ((Below.refl _ _).alloc (Nat.le_refl _) _)).below hb1).below ((Below.refl _ _).alloc (Nat.le_refl _) _)).below hbz).1
  have hc1 := (((((At.box (i := 1) _ _ rfl).below ((Below.refl _ _).alloc (Nat.le_refl _) _)).below hb1).below ((Below.refl _ _).alloc (Nat.le_refl _) _)).below hbz).1
  have hc0' : wz.cell? ⟨w.heap.size, 0, none⟩ = some (.int .i64 z1) := hc0
  have hc1' : wz.cell? ⟨w.heap.size, 1, none⟩ = some (.int .i64 z2) := hc1
  have hg0 : ∀ w', Grow none wz.drew w' → w'.cell? ⟨w.heap.size, 0, none⟩ = some (.int .i64 z1) := fun w' h => h.cell hc0' (by simp)
  have hg1 : ∀ w', Grow none wz.drew w' → w'.cell? ⟨w.heap.size, 1, none⟩ = some (.int .i64 z2) := fun w' h => h.cell hc1' (by simp)
  clear hc0 hc1
  go_wp2_with fail
  refine wp_region_grow none [(true, 0), (true, 1), (true, 2), (true, 3), (true, 4), (true, 5)] (by kernel_rfl) (by kernel_rfl) ?_
  repeat (refine ord_pas (by rfl) (fun K hK => ?_); go_simp; refine hK _ _ (fun w' hw' => (by go_simp)) ?_; clear hK K)
  refine ord_nil ?_
  clear hg0 hg1
  go_wp2
  go_ret
  exact ⟨rfl, (bt (bt (bt (bt (bt ((Below.refl _ _).alloc (Nat.le_refl _) _) ((Below.refl _ _).alloc (Nat.le_refl _) _)) hb1) ((Below.refl _ _).alloc (Nat.le_refl _) _)) hbz) (below_drewN _ 1))⟩

theorem mulExponents_any {A A2 : Option Addr} {n1 c1 n2 c2 x y : Nat} {z1 z2 : Int} {w : World} (h : Num w (.slice A n1 c1) x n1) (h' : Num w (.slice A2 n2 c2) y n2) (hn1 : n1 ≤ 1048576) (hn2 : n2 ≤ 1048576) :
    Calls Try.prog 7 #[.slice A n1 c1, .slice A2 n2 c2, .agg #[.int .i64 z1, .int .i64 z2]] w (Keeps (.bool true) w) := by
  by_cases a1 : z1 < 0
  · exact exp_no1 hn1 hn2 a1
  by_cases a2 : z2 < 0
  · exact exp_no2 hn1 hn2 ⟨by omega, a2⟩
  by_cases a3 : 200 < z1
  · exact exp_no3 hn1 hn2 ⟨by omega, by omega, a3⟩
  by_cases a4 : 200 < z2
  · exact exp_no4 hn1 hn2 ⟨by omega, by omega, by omega, a4⟩
  by_cases a5 : 300 < ((n1 : Int) + (n2 : Int)) * (z1 + z2)
  · exact exp_no5 hn1 hn2 ⟨by omega, by omega, by omega, by omega, a5⟩
  obtain ⟨M, rfl⟩ := Int.eq_ofNat_of_zero_le (show 0 ≤ z1 by omega)
  obtain ⟨N, rfl⟩ := Int.eq_ofNat_of_zero_le (show 0 ≤ z2 by omega)
  refine mulExponents_yes h h' (by omega) (by omega) hn1 hn2 ?_
  have e : ((n1 : Int) + (n2 : Int)) * ((M : Int) + (N : Int)) = (((n1 + n2) * (M + N) : Nat) : Int) := by simp [Int.natCast_mul, Int.natCast_add]
  rw [e] at a5
  omega
end Go.Proofs.Ytgiecdokjmcogaa
