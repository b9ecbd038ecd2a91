/-
  MulPowers.
-/
import Derived.Test.YtgiecdokjmcogaaPowB
namespace Go.Proofs.Ytgiecdokjmcogaa
open Go.RowKit
set_option linter.unusedVariables false

set_option maxHeartbeats 2000000 in
theorem mulPowers_neg {A A2 : Option Addr} {n1 c1 n2 c2 x y : Nat} {z : Int} {w : World} (h : Num w (.slice A n1 c1) x n1) (h' : Num w (.slice A2 n2 c2) y n2) (hn1 : n1 ≤ 1048576) (hn2 : n2 ≤ 1048576) (hz : z < 0) :
    Calls Try.prog 9 #[.slice A n1 c1, .slice A2 n2 c2, .int .i64 z] w (Keeps (.bool true) w) := by
  have H := Lib.hid h
  have H' := Lib.hid h'
  clear h h'
  (have d1 : decide (z < 0) = true := by simp; omega)
  go_enter Try.func9, Try.ntmps9
  go_wp2_with fail
  refine (awake3_any _).mono ?_
  rintro e w1 ⟨rfl, hb1⟩
  go_wp2_with fail
  refine (pow3_neg hz).mono ?_
  rintro e w2 ⟨A_p1, n_p1, c_p1, rfl, o_p1, hb2, l_p1⟩
  go_wp2_with fail
  refine (pow_neg hz).mono ?_
  rintro e w3 ⟨A_p2, n_p2, c_p2, rfl, o_p2, hb3, l_p2⟩
  go_wp2_with fail
  refine (plain_yes).mono ?_
  rintro e w4 ⟨rfl, hb4⟩
  go_wp2_with fail
  refine (same3_yes (o_p2.rd.below hb4) ((o_p1.rd.below hb3).below hb4) rfl (by omega)).mono ?_
  rintro e w5 ⟨rfl, hb5⟩
  go_wp2_with fail
  refine (low3_neg hz).mono ?_
  rintro e w6 ⟨A_l1, n_l1, c_l1, rfl, o_l1, hb6, l_l1⟩
  go_wp2_with fail
  refine (low_neg hz).mono ?_
  rintro e w7 ⟨A_l2, n_l2, c_l2, rfl, o_l2, hb7, l_l2⟩
  go_wp2_with fail
  refine (plain_yes).mono ?_
  rintro e w8 ⟨rfl, hb8⟩
  go_wp2_with fail
  refine (same3_yes (o_l2.rd.below hb8) ((o_l1.rd.below hb7).below hb8) rfl (by omega)).mono ?_
  rintro e w9 ⟨rfl, hb9⟩
  go_wp2
  go_ret
  exact ⟨rfl, (bt (bt (bt (bt (bt (bt (bt (bt hb1 hb2) hb3) hb4) hb5) hb6) hb7) hb8) hb9)⟩
set_option maxHeartbeats 2000000 in
theorem mulPowers_big {A A2 : Option Addr} {n1 c1 n2 c2 x y : Nat} {z : Int} {w : World} (h : Num w (.slice A n1 c1) x n1) (h' : Num w (.slice A2 n2 c2) y n2) (hn1 : n1 ≤ 1048576) (hn2 : n2 ≤ 1048576) (hz : 10000 < z) :
    Calls Try.prog 9 #[.slice A n1 c1, .slice A2 n2 c2, .int .i64 z] w (Keeps (.bool true) w) := by
  have H := Lib.hid h
  have H' := Lib.hid h'
  clear h h'
  (have d1 : decide (z < 0) = false := by simp; omega);(have d2 : decide (10000 < z) = true := by simp; omega)
  go_enter Try.func9, Try.ntmps9
  go_wp2_with fail
  refine (awake3_any _).mono ?_
  rintro e w1 ⟨rfl, hb1⟩
  go_wp2_with fail
  refine (pow3_big hz).mono ?_
  rintro e w2 ⟨A_p1, n_p1, c_p1, rfl, o_p1, hb2, l_p1⟩
  go_wp2_with fail
  refine (pow_big hz).mono ?_
  rintro e w3 ⟨A_p2, n_p2, c_p2, rfl, o_p2, hb3, l_p2⟩
  go_wp2_with fail
  refine (plain_yes).mono ?_
  rintro e w4 ⟨rfl, hb4⟩
  go_wp2_with fail
  refine (same3_yes (o_p2.rd.below hb4) ((o_p1.rd.below hb3).below hb4) rfl (by omega)).mono ?_
  rintro e w5 ⟨rfl, hb5⟩
  go_wp2_with fail
  refine (low3_big hz).mono ?_
  rintro e w6 ⟨A_l1, n_l1, c_l1, rfl, o_l1, hb6, l_l1⟩
  go_wp2_with fail
  refine (low_big hz).mono ?_
  rintro e w7 ⟨A_l2, n_l2, c_l2, rfl, o_l2, hb7, l_l2⟩
  go_wp2_with fail
  refine (plain_yes).mono ?_
  rintro e w8 ⟨rfl, hb8⟩
  go_wp2_with fail
  refine (same3_yes (o_l2.rd.below hb8) ((o_l1.rd.below hb7).below hb8) rfl (by omega)).mono ?_
  rintro e w9 ⟨rfl, hb9⟩
  go_wp2
  go_ret
  exact ⟨rfl, (bt (bt (bt (bt (bt (bt (bt (bt hb1 hb2) hb3) hb4) hb5) hb6) hb7) hb8) hb9)⟩
set_option maxHeartbeats 2000000 in
theorem mulPowers_pow {A A2 : Option Addr} {n1 c1 n2 c2 x y : Nat} {N : Nat} {w : World} (h : Num w (.slice A n1 c1) x n1) (h' : Num w (.slice A2 n2 c2) y n2) (hn1 : n1 ≤ 1048576) (hn2 : n2 ≤ 1048576) (hN : N ≤ 10000) (hp : n1 * N ≤ 300) :
    Calls Try.prog 9 #[.slice A n1 c1, .slice A2 n2 c2, .int .i64 (N : Int)] w (Keeps (.bool true) w) := by
  have H := Lib.hid h
  have H' := Lib.hid h'
  clear h h'
  have d1 : decide ((N : Int) < 0) = false := by simp
  have d2 : decide (10000 < (N : Int)) = false := by simp; omega
  have HP := Lib.hid hp
  have e : ((n1 * N : Nat) : Int) = (n1 : Int) * (N : Int) := Int.natCast_mul _ _
  have b0 : n1 * N ≤ 1048576 * 10000 := Nat.mul_le_mul hn1 hN
  have b1 : (n1 : Int) * (N : Int) ≤ 10485760000 := by rw [← e]; omega
  have b2 : 0 ≤ (n1 : Int) * (N : Int) := by rw [← e]; omega
  have d3 : decide ((n1 : Int) * (N : Int) ≤ 300) = true := by rw [← e]; simp; omega
  clear e b0 hp
  go_enter Try.func9, Try.ntmps9
  go_wp2_with fail
  refine (awake3_any _).mono ?_
  rintro e w1 ⟨rfl, hb1⟩
  go_wp2_with fail
  refine (pow3_any (H.out.below hb1) (N := N) rfl hN (by have := HP.out; omega)).mono ?_
  rintro e w2 ⟨A_p1, n_p1, c_p1, rfl, o_p1, hb2, l_p1⟩
  go_wp2_with fail
  refine (pow_any ((H.out.below hb1).below hb2) (N := N) rfl hN (by omega) (by have := HP.out; omega)).mono ?_
  rintro e w3 ⟨A_p2, n_p2, c_p2, rfl, o_p2, hb3, l_p2⟩
  go_wp2_with fail
  refine (plain_yes).mono ?_
  rintro e w4 ⟨rfl, hb4⟩
  go_wp2_with fail
  refine (same3_yes (o_p2.rd.below hb4) ((o_p1.rd.below hb3).below hb4) rfl (by have := HP.out; omega)).mono ?_
  rintro e w5 ⟨rfl, hb5⟩
  go_wp2_with fail
  refine (low3_any (((((H.out.below hb1).below hb2).below hb3).below hb4).below hb5) (((((H'.out.below hb1).below hb2).below hb3).below hb4).below hb5) rfl hN (by omega) (by omega)).mono ?_
  rintro e w6 ⟨A_l1, n_l1, c_l1, rfl, o_l1, hb6, l_l1⟩
  go_wp2_with fail
  refine (low_any ((((((H.out.below hb1).below hb2).below hb3).below hb4).below hb5).below hb6) ((((((H'.out.below hb1).below hb2).below hb3).below hb4).below hb5).below hb6) rfl hN (by omega) (by omega)).mono ?_
  rintro e w7 ⟨A_l2, n_l2, c_l2, rfl, o_l2, hb7, l_l2⟩
  go_wp2_with fail
  refine (plain_yes).mono ?_
  rintro e w8 ⟨rfl, hb8⟩
  go_wp2_with fail
  refine (same3_yes (o_l2.rd.below hb8) ((o_l1.rd.below hb7).below hb8) rfl (by omega)).mono ?_
  rintro e w9 ⟨rfl, hb9⟩
  go_wp2
  go_ret
  exact ⟨rfl, (bt (bt (bt (bt (bt (bt (bt (bt hb1 hb2) hb3) hb4) hb5) hb6) hb7) hb8) hb9)⟩
set_option maxHeartbeats 2000000 in
theorem mulPowers_not {A A2 : Option Addr} {n1 c1 n2 c2 x y : Nat} {N : Nat} {w : World} (h : Num w (.slice A n1 c1) x n1) (h' : Num w (.slice A2 n2 c2) y n2) (hn1 : n1 ≤ 1048576) (hn2 : n2 ≤ 1048576) (hN : N ≤ 10000) (hp : 300 < n1 * N) :
    Calls Try.prog 9 #[.slice A n1 c1, .slice A2 n2 c2, .int .i64 (N : Int)] w (Keeps (.bool true) w) := by
  have H := Lib.hid h
  have H' := Lib.hid h'
  clear h h'
  have d1 : decide ((N : Int) < 0) = false := by simp
  have d2 : decide (10000 < (N : Int)) = false := by simp; omega
  have HP := Lib.hid hp
  have e : ((n1 * N : Nat) : Int) = (n1 : Int) * (N : Int) := Int.natCast_mul _ _
  have b0 : n1 * N ≤ 1048576 * 10000 := Nat.mul_le_mul hn1 hN
  have b1 : (n1 : Int) * (N : Int) ≤ 10485760000 := by rw [← e]; omega
  have b2 : 0 ≤ (n1 : Int) * (N : Int) := by rw [← e]; omega
  have d3 : decide ((n1 : Int) * (N : Int) ≤ 300) = false := by rw [← e]; simp; omega
  clear e b0 hp
  go_enter Try.func9, Try.ntmps9
  go_wp2_with fail
  refine (awake3_any _).mono ?_
  rintro e w1 ⟨rfl, hb1⟩
  skip
  go_wp2_with fail
  refine (low3_any (H.out.below hb1) (H'.out.below hb1) rfl hN (by omega) (by omega)).mono ?_
  rintro e w2 ⟨A_l1, n_l1, c_l1, rfl, o_l1, hb2, l_l1⟩
  go_wp2_with fail
  refine (low_any ((H.out.below hb1).below hb2) ((H'.out.below hb1).below hb2) rfl hN (by omega) (by omega)).mono ?_
  rintro e w3 ⟨A_l2, n_l2, c_l2, rfl, o_l2, hb3, l_l2⟩
  go_wp2_with fail
  refine (plain_yes).mono ?_
  rintro e w4 ⟨rfl, hb4⟩
  go_wp2_with fail
  refine (same3_yes (o_l2.rd.below hb4) ((o_l1.rd.below hb3).below hb4) rfl (by omega)).mono ?_
  rintro e w5 ⟨rfl, hb5⟩
  go_wp2
  go_ret
  exact ⟨rfl, (bt (bt (bt (bt hb1 hb2) hb3) hb4) hb5)⟩
theorem mulPowers_any {A A2 : Option Addr} {n1 c1 n2 c2 x y : Nat} {z : Int} {w : World} (h : Num w (.slice A n1 c1) x n1) (h' : Num w (.slice A2 n2 c2) y n2) (hn1 : n1 ≤ 1048576) (hn2 : n2 ≤ 1048576) :
    Calls Try.prog 9 #[.slice A n1 c1, .slice A2 n2 c2, .int .i64 z] w (Keeps (.bool true) w) := by
  by_cases a1 : z < 0
  · exact mulPowers_neg h h' hn1 hn2 a1
  by_cases a2 : 10000 < z
  · exact mulPowers_big h h' hn1 hn2 a2
  obtain ⟨N, rfl⟩ := Int.eq_ofNat_of_zero_le (show 0 ≤ z by omega)
  by_cases a3 : n1 * N ≤ 300
  · exact mulPowers_pow h h' hn1 hn2 (by omega) a3
  · exact mulPowers_not h h' hn1 hn2 (by omega) (by omega)
end Go.Proofs.Ytgiecdokjmcogaa
