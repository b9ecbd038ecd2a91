/-
  surdref01.MulSub.
-/
import Derived.Test.YtgiecdokjmcogaaSumB
import Derived.Test.YtgiecdokjmcogaaMsub
namespace Go.Proofs.Ytgiecdokjmcogaa
open Go.RowKit
set_option linter.unusedVariables false

theorem msb_le {x p N : Nat} (hN : 0 < N) (h : p ≤ x) : msb x p N = 0 := by
  unfold msb
  have : p - x = 0 := by omega
  rw [this]
  exact Nat.div_eq_of_lt (by omega)
theorem msb_q {x p N : Nat} (hN : 0 < N) (h : (p - x) % N = 0) : msb x p N = (p - x) / N := by
  unfold msb
  have := Nat.div_add_mod (p - x) N
  rw [h, Nat.add_zero] at this
  have e2 : p - x + N - 1 = N * ((p - x) / N) + (N - 1) := by omega
  rw [e2, Nat.mul_add_div hN, Nat.div_eq_of_lt (show N - 1 < N by omega), Nat.add_zero]
theorem msb_q1 {x p N : Nat} (hN : 0 < N) (h : 0 < (p - x) % N) : msb x p N = (p - x) / N + 1 := by
  unfold msb
  have e := Nat.div_add_mod (p - x) N
  have l := Nat.mod_lt (p - x) hN
  generalize (p - x) % N = r at *
  generalize (p - x) / N = q at *
  rw [← e]
  have : N * q + r + N - 1 = N * (q + 1) + (r - 1) := by rw [Nat.mul_succ]; omega
  rw [this, Nat.mul_add_div hN, Nat.div_eq_of_lt (by omega), Nat.add_zero]
theorem msb_ok {x p N : Nat} (hN : 0 < N) : p ≤ x + N * msb x p N := by
  by_cases h : p ≤ x
  · omega
  · have e := Nat.div_add_mod (p - x) N
    rcases Nat.eq_zero_or_pos ((p - x) % N) with h0 | h0
    · rw [msb_q hN h0]; omega
    · rw [msb_q1 hN h0, Nat.mul_succ]
      have := Nat.mod_lt (p - x) hN
      omega
theorem msb_lt {x z y n m : Nat} (hz : z < W ^ m) (hy : y < W) (hm : m ≤ n) : msb x (z * y) (W ^ n) < W := by
  unfold msb
  have h1 := mad_lt (n := n) (Nat.lt_of_lt_of_le hz (Nat.pow_le_pow_right W_pos hm)) hy W_pos
  have hp := Nat.pow_pos (n := n) W_pos
  refine Nat.div_lt_of_lt_mul ?_
  have h2 : z * y ≤ W ^ n * (W - 1) := by
    have a : z * y ≤ W ^ n * y := Nat.mul_le_mul_right _ (Nat.le_of_lt (Nat.lt_of_lt_of_le hz (Nat.pow_le_pow_right W_pos hm)))
    have b : W ^ n * y ≤ W ^ n * (W - 1) := Nat.mul_le_mul_left _ (by omega)
    omega
  have h3 : W ^ n * (W - 1) + W ^ n = W ^ n * W := by
    rw [← Nat.mul_succ]
    rfl
  omega

set_option maxHeartbeats 400000 in
theorem rmulSub1_arg {A A2 : Option Addr} {n c m c2 : Nat} {y : Int} {w : World} (hm : n < m) : Calls Try.prog 70 #[.slice A n c, .slice A2 m c2, .int .u64 y] w (Gives3 .u64 25 w [] (.int .u64 0) (.int .i64 3)) := by
  have q1 : decide (n < m) = true := by simpa using hm
  go_enter Try.func70, Try.ntmps70
  go_wp2
  go_ret3
  exact ⟨_, _, _, rfl, Own.nil, Below.refl _ _⟩

theorem Dgs.nil {w : World} : Dgs w (.slice none 0 0) 0 0 := ⟨none, 0, 0, [], rfl, Rd.nil, All.nil, rfl, Nat.le_refl _⟩

set_option maxHeartbeats 4000000 in
set_option maxRecDepth 100000 in
theorem rmulSub1_any {A A2 : Option Addr} {n c m c2 y : Nat} {xs ys : List Nat} {w : World} (h : Rd .u64 w A n c xs) (h' : Rd .u64 w A2 m c2 ys) (hx : All W xs) (hys : All W ys) (hy : y < W) (hm : m ≤ n) (hn : n ≤ 4294967296) :
    Calls Try.prog 70 #[.slice A n c, .slice A2 m c2, .int .u64 (y : Int)] w (Gives3 .u64 25 w (wds W n (val W xs + W ^ n * msb (val W xs) (val W ys * y) (W ^ n) - val W ys * y)) (.int .u64 ((msb (val W xs) (val W ys * y) (W ^ n) : Nat) : Int)) (.int .i64 0)) := by
  have q1 : decide (n < m) = false := by simpa using hm
  have hlt := msb_lt (x := val W xs) (h'.vlt hys) hy hm
  have hxl := h.vlt hx
  have hok := msb_ok (x := val W xs) (p := val W ys * y) (Nat.pow_pos (n := n) W_pos)
  have H := Lib.hid h
  have H2 := Lib.hid h'
  have HX := Lib.hid hx
  have HYS := Lib.hid hys
  have HY := Lib.hid hy
  have HM := Lib.hid hm
  obtain ⟨X, hX⟩ : ∃ X, X = val W xs := ⟨_, rfl⟩
  obtain ⟨P, hP⟩ : ∃ P, P = val W ys * y := ⟨_, rfl⟩
  rw [← hX] at hlt hxl hok ⊢
  rw [← hP] at hlt hok ⊢
  have HXX := Lib.hid hX.symm
  have HPP := Lib.hid hP.symm
  have hi4 : Hid (4 * (n : Int) = ((4 * n : Nat) : Int)) := by show _ = _; omega
  have s1 := lay (show IntKind.i64.wrap (4 * (n : Int)) = 4 * (n : Int) from IntWalk.i64_in _ (by omega))
  have hmB : m ≤ 4294967296 := by omega
  have HXL : Hid (X < D ^ (4 * n)) := by show _ < _; rw [← WD_pow]; exact hxl
  obtain ⟨Q, hQ⟩ : ∃ Q, Q = msb X P (W ^ n) := ⟨_, rfl⟩
  rw [← hQ] at hlt hok ⊢
  have HC := Lib.hid hlt
  have HQQ := Lib.hid hQ
  have HLE2 : Hid (P ≤ X + Q * D ^ (4 * n)) := by show _ ≤ _; rw [← WD_pow, Nat.mul_comm]; exact hok
  have HQW : Hid (X + Q * D ^ (4 * n) - P = X + W ^ n * Q - P) := by show _ = _; rw [WD_pow, Nat.mul_comm]
  have HK : Hid (X + Q * D ^ (4 * n) < D ^ (4 * n + 4 * m + 8)) := by
    show _ < _
    have a : X + Q * D ^ (4 * n) < (Q + 1) * D ^ (4 * n) := by rw [Nat.succ_mul Q]; have := HXL.out; omega
    have b : (Q + 1) * D ^ (4 * n) ≤ W * D ^ (4 * n) := Nat.mul_le_mul_right _ hlt
    have e : W * D ^ (4 * n) = D ^ (4 + 4 * n) := by rw [Nat.pow_add, W_D]
    have d : D ^ (4 + 4 * n) ≤ D ^ (4 * n + 4 * m + 8) := Nat.pow_le_pow_right D_pos (by omega)
    omega
  clear h h' hx hys hy hm hX hP hlt hxl hok hQ
  go_enter Try.func70, Try.ntmps70
  go_wp2_with fail
  refine (digits1_num H.out HX.out (by omega)).mono ?_
  rintro e w1 ⟨A_a, n_a, c_a, xs_a, rfl, o_a, a_a, v_a, hb1, l_a⟩
  have V_a := Lib.hid v_a
  clear v_a
  rw [HXX.out] at V_a
  go_wp2_with fail
  refine (digits1_num (H2.out.below hb1) HYS.out (by omega)).mono ?_
  rintro e w2 ⟨A_b, n_b, c_b, xs_b, rfl, o_b, a_b, v_b, hb2, l_b⟩
  have V_b := Lib.hid v_b
  clear v_b
  go_wp2_with fail
  refine (digitsW_any (w := w2) HY.out).mono ?_
  rintro e w3 ⟨A_d, n_d, c_d, xs_d, rfl, o_d, a_d, v_d, hb3, l_d⟩
  have V_d := Lib.hid v_d
  clear v_d
  go_wp2_with fail
  refine (times1_any ((o_b.dig a_b V_b.out l_b).below hb3) (o_d.dig a_d V_d.out l_d) (by omega) (by omega)).mono ?_
  rintro e w4 ⟨A_p, n_p, c_p, xs_p, rfl, o_p, a_p, v_p, hb4, l_p⟩
  have V_p := Lib.hid v_p
  clear v_p
  rw [HPP.out] at V_p
  go_wp2_with fail
  refine (compare1_any ((((o_a.dig a_a V_a.out l_a).below hb2).below hb3).below hb4) (o_p.dig a_p V_p.out l_p) (by omega) (by omega)).mono ?_
  rintro e w' ⟨rfl, rfl⟩
  by_cases hle : P ≤ X
  · obtain ⟨z, ec, hz0⟩ : ∃ z : Int, cmpN X P = z ∧ 0 ≤ z := ⟨_, rfl, by rw [cmpN, if_neg (by omega)]; split <;> omega⟩
    rw [ec]
    clear ec
    have e0 : Q = 0 := by rw [HQQ.out]; exact msb_le (Nat.pow_pos W_pos) hle
    have E0 := Lib.hid e0
    have HL := Lib.hid hle
    clear e0 hle
    go_wp2_with fail
    refine (minus1_any ((((o_a.dig a_a V_a.out l_a).below hb2).below hb3).below hb4) (o_p.dig a_p V_p.out l_p) (by omega) (by omega) HL.out).mono ?_
    rintro e w6 ⟨A_l, n_l, c_l, xs_l, rfl, o_l, a_l, v_l, hb6, l_l⟩
    have V_l := Lib.hid v_l
    clear v_l
    go_wp2_with fail
    refine (words1_any (m := n) (o_l.dig a_l V_l.out l_l) rfl (by omega) (by omega)).mono ?_
    rintro e w7 ⟨A_v, n_v, c_v, rfl, o_v, hb7⟩
    go_wp2
    go_ret3
    rw [E0.out]
    exact ⟨_, _, _, rfl, (o_v.mono (bt (bt (bt (bt hb1 hb2) hb3) hb4) hb6).size), (bt (bt (bt (bt (bt hb1 hb2) hb3) hb4) hb6) hb7)⟩
  · have ec : cmpN X P = -1 := by rw [cmpN, if_pos (by omega)]
    rw [ec]
    clear ec
    have HL : Hid (X ≤ P) := by show _ ≤ _; omega
    clear hle
    go_wp2_with fail
    refine (minus1_any (o_p.dig a_p V_p.out l_p) ((((o_a.dig a_a V_a.out l_a).below hb2).below hb3).below hb4) (by omega) (by omega) HL.out).mono ?_
    rintro e w8 ⟨A_l, n_l, c_l, xs_l, rfl, o_l, a_l, v_l, hb8, l_l⟩
    have V_l := Lib.hid v_l
    clear v_l
    go_wp2_with fail
    refine (power1_any (n := 4 * n) hi4.out (by omega)).mono ?_
    rintro e w9 ⟨A_pw, n_pw, c_pw, xs_pw, rfl, o_pw, a_pw, v_pw, hb9, l_pw⟩
    have V_pw := Lib.hid v_pw
    clear v_pw
    have HB := Lib.hid (bt (bt (bt (bt (bt hb1 hb2) hb3) hb4) hb8) hb9)
    have CD := Lib.hid (divide1_dig ((o_l.dig a_l V_l.out l_l).below hb9) (o_pw.dig a_pw V_pw.out l_pw) (Nat.pow_pos D_pos) (by omega) (by omega))
    have XD0 := Lib.hid ((((((o_a.dig a_a V_a.out l_a).below hb2).below hb3).below hb4).below hb8).below hb9)
    have PD0 := Lib.hid (((o_p.dig a_p V_p.out l_p).below hb8).below hb9)
    clear V_b V_d V_l V_pw a_b a_d a_l a_pw o_b o_d o_l o_pw V_a a_a o_a V_p a_p o_p
    go_wp2_with fail
    refine CD.out.mono ?_
    rintro e w20 ⟨A20, n20, c20, A21, n21, c21, xs20, xs21, rfl, o20, a20, v20, l20, o21, a21, v21, l21, hb20⟩
    have Q20 := Lib.hid (o20.dig a20 v20 l20)
    have R20 := Lib.hid (o21.dig a21 v21 l21)
    have B20 := Lib.hid (bt HB.out hb20)
    have XD2 := Lib.hid (XD0.out.below hb20)
    have PD2 := Lib.hid (PD0.out.below hb20)
    clear o20 o21 a20 a21 v20 v21 CD XD0 PD0
    have C3 := Lib.hid (compare1_any (w := w20) R20.out Dgs.nil (by omega) (by omega))
    go_wp2_with fail
    refine C3.out.mono ?_
    rintro e w' ⟨rfl, rfl⟩
    obtain ⟨r, hrr⟩ : ∃ r, r = (P - X) % D ^ (4 * n) := ⟨_, rfl⟩
    rw [← hrr]
    by_cases hr : 0 < r
    · have ec : cmpN r 0 = 1 := by rw [cmpN, if_neg (Nat.not_lt_zero _), if_pos hr]
      rw [ec]
      have eq : Q = (P - X) / D ^ (4 * n) + 1 := by
        rw [HQQ.out, WD_pow]
        exact msb_q1 (Nat.pow_pos D_pos) (by rw [← hrr]; exact hr)
      have C4 : Hid (Calls Try.prog 93 #[.slice A20 n20 c20, .slice (some ⟨w20.heap.size, 0, none⟩) 1 1] (w20.alloc (.cells #[.int .i64 1] 3)) (GG (w20.alloc (.cells #[.int .i64 1] 3)) Q (4 * m + 5))) := by
        show Calls _ _ _ _ _
        have := plus1_any (w := w20.alloc (.cells #[.int .i64 1] 3)) (v2 := .slice (some ⟨w20.heap.size, 0, none⟩) 1 1) (y := 1) (M := 1) (K := 4 * m + 5) (Q20.out.below (belowA _ _)) ⟨_, 1, 1, [1], rfl, Rd.lit1 w20 1, All.cons D_gt All.nil, by simp [val], Nat.le_refl _⟩ (by omega) (by omega) (by omega) ?_
        · rw [← eq] at this; exact this
        · rw [← eq]
          refine Nat.lt_of_lt_of_le HC.out ?_
          rw [W_D]
          exact Nat.pow_le_pow_right D_pos (by omega)
      clear hr hrr ec eq
      go_wp2_with fail
      refine C4.out.mono ?_
      rintro e w22 ⟨A22, n22, c22, xs22, rfl, o22, a22, v22, hb22, l22⟩
      have D22 := Lib.hid (o22.dig a22 v22 l22)
      clear o22 a22 v22
      have bA := belowA w20 (.cells #[.int .i64 1] 3)
      have b22 := Lib.hid (bt bA hb22)
      clear bA
      go_wp2
      have QD : Hid (Dgs w22.drew (.slice A22 n22 c22) Q (4 * m + 5)) := D22.out
      have XD : Hid (Dgs w22.drew (.slice A_a n_a c_a) X (4 * n)) := (XD2.out.below b22.out.drew)
      have PD : Hid (Dgs w22.drew (.slice A_p n_p c_p) P (4 * m + 4)) := (PD2.out.below b22.out.drew)
      have BD : Hid (Below w.heap.size w w22) := (bt B20.out b22.out)
      refine wp_region_grow none [(true, 0), (true, 1), (true, 2), (true, 3), (true, 4), (true, 8), (true, 10), (true, 11), (true, 13), (false, 5), (false, 6), (false, 7), (false, 9), (false, 12), (false, 14), (true, 15), (true, 16), (true, 17), (true, 18), (true, 19)] (by kernel_rfl) (by kernel_rfl) ?_
      repeat (refine ord_pas (by rfl) (fun K hK => ?_); go_simp; refine hK _ _ (fun w' hw' => (by go_simp)) ?_; clear hK K)
      (refine ord_call (by rfl) (fun K hK => ?_); go_simp; refine hK _ _ ?_; clear hK K)
      refine (power1_any (n := 4 * n) hi4.out (by omega)).mono ?_
      rintro e w31 ⟨A31, n31, c31, xs31, rfl, o31, a31, v31, hb31, l31⟩
      have D31 := Lib.hid (o31.dig a31 v31 l31)
      clear v31 a31 o31
      refine ⟨_, rfl, Grow.of_below hb31, ?_⟩
      (refine ord_norm (fun K hK => ?_); go_simp; refine hK _ ?_; clear hK K)
      (refine ord_call (by rfl) (fun K hK => ?_); go_simp; refine hK _ _ ?_; clear hK K)
      refine (times1_any (QD.out.below hb31) D31.out (by omega) (by omega)).mono ?_
      rintro e w32 ⟨A32, n32, c32, xs32, rfl, o32, a32, v32, hb32, l32⟩
      have D32 := Lib.hid (o32.dig a32 v32 l32)
      clear v32 a32 o32
      refine ⟨_, rfl, Grow.of_below hb32, ?_⟩
      (refine ord_norm (fun K hK => ?_); go_simp; refine hK _ ?_; clear hK K)
      (refine ord_call (by rfl) (fun K hK => ?_); go_simp; refine hK _ _ ?_; clear hK K)
      refine (plus1_any (K := 4 * n + 4 * m + 8) ((XD.out.below hb31).below hb32) D32.out (by omega) (by omega) (by omega) HK.out).mono ?_
      rintro e w33 ⟨A33, n33, c33, xs33, rfl, o33, a33, v33, hb33, l33⟩
      have D33 := Lib.hid (o33.dig a33 v33 l33)
      clear v33 a33 o33
      refine ⟨_, rfl, Grow.of_below hb33, ?_⟩
      (refine ord_norm (fun K hK => ?_); go_simp; refine hK _ ?_; clear hK K)
      (refine ord_call (by rfl) (fun K hK => ?_); go_simp; refine hK _ _ ?_; clear hK K)
      refine (minus1_any D33.out (((PD.out.below hb31).below hb32).below hb33) (by omega) (by omega) HLE2.out).mono ?_
      rintro e w34 ⟨A34, n34, c34, xs34, rfl, o34, a34, v34, hb34, l34⟩
      have D34 := Lib.hid (o34.dig a34 v34 l34)
      clear v34 a34 o34
      refine ⟨_, rfl, Grow.of_below hb34, ?_⟩
      (refine ord_norm (fun K hK => ?_); go_simp; refine hK _ ?_; clear hK K)
      (refine ord_call (by rfl) (fun K hK => ?_); go_simp; refine hK _ _ ?_; clear hK K)
      refine (words1_any (m := n) D34.out rfl (by omega) (by omega)).mono ?_
      rintro e w35 ⟨A35, n35, c35, rfl, o35, hb35⟩
      have O35 := Lib.hid o35
      clear o35
      refine ⟨_, rfl, Grow.of_below hb35, ?_⟩
      (refine ord_norm (fun K hK => ?_); go_simp; refine hK _ ?_; clear hK K)
      (refine ord_call (by rfl) (fun K hK => ?_); go_simp; refine hK _ _ ?_; clear hK K)
      refine (words1_any (m := 1) (((((QD.out.below hb31).below hb32).below hb33).below hb34).below hb35) rfl (by omega) (by omega)).mono ?_
      rintro e w36 ⟨A36, n36, c36, rfl, o36, hb36⟩
      refine ⟨_, rfl, Grow.of_below hb36, ?_⟩
      (refine ord_norm (fun K hK => ?_); go_simp; refine hK _ ?_; clear hK K)
      obtain ⟨g, rfl, rfl, hc0⟩ := own1 o36 HC.out
      have hc0' : ∀ w', Grow none w36 w' → w'.cell? ⟨g, 0, none⟩ = some (.int .u64 ((Q : Nat) : Int)) := fun w' h => h.cell hc0 (by simp)
      repeat (refine ord_pas (by rfl) (fun K hK => ?_); go_simp; refine hK _ _ (fun w' hw' => (by go_simp)) ?_; clear hK K)
      refine ord_nil ?_
      clear hc0 hc0' o36
      go_wp2
      go_ret3
      have BB : Below w.heap.size w w34 := bt (bt (bt (bt BD.out.drew hb31) hb32) hb33) hb34
      refine ⟨_, _, _, rfl, ?_, bt (bt BB hb35) hb36⟩
      have o := (O35.out.below hb36).mono BB.size
      rw [HQW.out] at o
      exact o
    · have ec : cmpN r 0 = 0 := by rw [cmpN, if_neg (Nat.not_lt_zero _), if_neg hr]
      rw [ec]
      have eq : Q = (P - X) / D ^ (4 * n) := by
        rw [HQQ.out, WD_pow]
        exact msb_q (Nat.pow_pos D_pos) (by rw [← hrr]; omega)
      rw [← eq] at Q20
      clear hr hrr ec eq
      go_wp2
      have QD : Hid (Dgs w20.drew (.slice A20 n20 c20) Q (4 * m + 5)) := (Q20.out.more (by omega))
      have XD : Hid (Dgs w20.drew (.slice A_a n_a c_a) X (4 * n)) := XD2.out
      have PD : Hid (Dgs w20.drew (.slice A_p n_p c_p) P (4 * m + 4)) := PD2.out
      have BD : Hid (Below w.heap.size w w20) := B20.out
      refine wp_region_grow none [(true, 0), (true, 1), (true, 2), (true, 3), (true, 4), (true, 8), (true, 10), (true, 11), (true, 13), (false, 5), (false, 6), (false, 7), (false, 9), (false, 12), (false, 14), (true, 15), (true, 16), (true, 17), (true, 18), (true, 19)] (by kernel_rfl) (by kernel_rfl) ?_
      repeat (refine ord_pas (by rfl) (fun K hK => ?_); go_simp; refine hK _ _ (fun w' hw' => (by go_simp)) ?_; clear hK K)
      (refine ord_call (by rfl) (fun K hK => ?_); go_simp; refine hK _ _ ?_; clear hK K)
      refine (power1_any (n := 4 * n) hi4.out (by omega)).mono ?_
      rintro e w31 ⟨A31, n31, c31, xs31, rfl, o31, a31, v31, hb31, l31⟩
      have D31 := Lib.hid (o31.dig a31 v31 l31)
      clear v31 a31 o31
      refine ⟨_, rfl, Grow.of_below hb31, ?_⟩
      (refine ord_norm (fun K hK => ?_); go_simp; refine hK _ ?_; clear hK K)
      (refine ord_call (by rfl) (fun K hK => ?_); go_simp; refine hK _ _ ?_; clear hK K)
      refine (times1_any (QD.out.below hb31) D31.out (by omega) (by omega)).mono ?_
      rintro e w32 ⟨A32, n32, c32, xs32, rfl, o32, a32, v32, hb32, l32⟩
      have D32 := Lib.hid (o32.dig a32 v32 l32)
      clear v32 a32 o32
      refine ⟨_, rfl, Grow.of_below hb32, ?_⟩
      (refine ord_norm (fun K hK => ?_); go_simp; refine hK _ ?_; clear hK K)
      (refine ord_call (by rfl) (fun K hK => ?_); go_simp; refine hK _ _ ?_; clear hK K)
      refine (plus1_any (K := 4 * n + 4 * m + 8) ((XD.out.below hb31).below hb32) D32.out (by omega) (by omega) (by omega) HK.out).mono ?_
      rintro e w33 ⟨A33, n33, c33, xs33, rfl, o33, a33, v33, hb33, l33⟩
      have D33 := Lib.hid (o33.dig a33 v33 l33)
      clear v33 a33 o33
      refine ⟨_, rfl, Grow.of_below hb33, ?_⟩
      (refine ord_norm (fun K hK => ?_); go_simp; refine hK _ ?_; clear hK K)
      (refine ord_call (by rfl) (fun K hK => ?_); go_simp; refine hK _ _ ?_; clear hK K)
      refine (minus1_any D33.out (((PD.out.below hb31).below hb32).below hb33) (by omega) (by omega) HLE2.out).mono ?_
      rintro e w34 ⟨A34, n34, c34, xs34, rfl, o34, a34, v34, hb34, l34⟩
      have D34 := Lib.hid (o34.dig a34 v34 l34)
      clear v34 a34 o34
      refine ⟨_, rfl, Grow.of_below hb34, ?_⟩
      (refine ord_norm (fun K hK => ?_); go_simp; refine hK _ ?_; clear hK K)
      (refine ord_call (by rfl) (fun K hK => ?_); go_simp; refine hK _ _ ?_; clear hK K)
      refine (words1_any (m := n) D34.out rfl (by omega) (by omega)).mono ?_
      rintro e w35 ⟨A35, n35, c35, rfl, o35, hb35⟩
      have O35 := Lib.hid o35
      clear o35
      refine ⟨_, rfl, Grow.of_below hb35, ?_⟩
      (refine ord_norm (fun K hK => ?_); go_simp; refine hK _ ?_; clear hK K)
      (refine ord_call (by rfl) (fun K hK => ?_); go_simp; refine hK _ _ ?_; clear hK K)
      refine (words1_any (m := 1) (((((QD.out.below hb31).below hb32).below hb33).below hb34).below hb35) rfl (by omega) (by omega)).mono ?_
      rintro e w36 ⟨A36, n36, c36, rfl, o36, hb36⟩
      refine ⟨_, rfl, Grow.of_below hb36, ?_⟩
      (refine ord_norm (fun K hK => ?_); go_simp; refine hK _ ?_; clear hK K)
      obtain ⟨g, rfl, rfl, hc0⟩ := own1 o36 HC.out
      have hc0' : ∀ w', Grow none w36 w' → w'.cell? ⟨g, 0, none⟩ = some (.int .u64 ((Q : Nat) : Int)) := fun w' h => h.cell hc0 (by simp)
      repeat (refine ord_pas (by rfl) (fun K hK => ?_); go_simp; refine hK _ _ (fun w' hw' => (by go_simp)) ?_; clear hK K)
      refine ord_nil ?_
      clear hc0 hc0' o36
      go_wp2
      go_ret3
      have BB : Below w.heap.size w w34 := bt (bt (bt (bt BD.out.drew hb31) hb32) hb33) hb34
      refine ⟨_, _, _, rfl, ?_, bt (bt BB hb35) hb36⟩
      have o := (O35.out.below hb36).mono BB.size
      rw [HQW.out] at o
      exact o
end Go.Proofs.Ytgiecdokjmcogaa
