/-
  The reference of layer 1: surdref01.Add, Sub, MulAdd, DivOne.
-/
import Derived.Test.YtgiecdokjmcogaaSumA
namespace Go.Proofs.Ytgiecdokjmcogaa
open Go.RowKit
set_option linter.unusedVariables false

theorem WD_pow (n : Nat) : W ^ n = D ^ (4 * n) := by rw [W_D, ← Nat.pow_mul]
theorem lt_D {x n : Nat} (h : x < W ^ n) : x < D ^ (4 * n) := by rw [← WD_pow]; exact h
theorem Rd.vlt {w : World} {A : Option Addr} {n c : Nat} {xs : List Nat} (h : Rd .u64 w A n c xs) (hx : All W xs) : val W xs < W ^ n := by
  have := val_lt hx
  rwa [h.len] at this
theorem plus_lt {x y n m K : Nat} (hx : x < W ^ n) (hy : y < W ^ m) (hK : max n m = K) : x + y < D ^ (4 * K + 1) := by
  have a : W ^ n ≤ W ^ K := Nat.pow_le_pow_right W_pos (by omega)
  have b : W ^ m ≤ W ^ K := Nat.pow_le_pow_right W_pos (by omega)
  have e : D ^ (4 * K + 1) = W ^ K * D := by rw [Nat.pow_succ, WD_pow]
  rw [e, D_eq]
  omega

set_option maxHeartbeats 1000000 in
theorem radd1_any {A A2 : Option Addr} {n c m c2 : Nat} {xs ys : List Nat} {w : World} (h : Rd .u64 w A n c xs) (h' : Rd .u64 w A2 m c2 ys) (hx : All W xs) (hy : All W ys) (hn : n ≤ 4294967296) (hm : m ≤ 4294967296) :
    Calls Try.prog 64 #[.slice A n c, .slice A2 m c2] w (Gives2 .u64 25 w (wds W (max n m) (val W xs + val W ys)) (.int .u64 (((val W xs + val W ys) / W ^ (max n m) : Nat) : Int))) := by
  have hmx := fun (ts : Array TypeId) (t : TypeId) => run_max2 (P := Try.prog) ts t n m w
  have HC0 := carry_lt (h.vlt hx) (h'.vlt hy)
  obtain ⟨M, hM⟩ : ∃ M, M = max n m := ⟨_, rfl⟩
  have HV := Lib.hid (plus_lt (h.vlt hx) (h'.vlt hy) hM.symm)
  rw [← hM] at hmx HC0 ⊢
  obtain ⟨z, hz⟩ : ∃ z, z = val W xs + val W ys := ⟨_, rfl⟩
  rw [← hz] at HC0 ⊢
  obtain ⟨q, hq⟩ : ∃ q, q = z / W ^ M := ⟨_, rfl⟩
  rw [← hq] at HC0 ⊢
  have HZ := Lib.hid hz
  have HQ : Hid (z / D ^ (4 * M) = q) := by show _ = _; rw [hq, WD_pow]
  have n1 : n ≤ M := by omega
  have m1 : m ≤ M := by omega
  have M1 : M ≤ 4294967296 := by omega
  have HX := Lib.hid hx
  have HY := Lib.hid hy
  have H := Lib.hid h
  have H' := Lib.hid h'
  have HC := Lib.hid HC0
  have hi4 : Hid (4 * (M : Int) = ((4 * M : Nat) : Int)) := by show _ = _; omega
  have s1 := lay (show IntKind.i64.wrap (4 * (M : Int)) = 4 * (M : Int) from IntWalk.i64_in _ (by omega))
  clear h h' hx hy HC0 hM hz hq
  go_enter Try.func64, Try.ntmps64
  go_wp2_with fail
  refine (digits1_num H.out HX.out (by omega)).mono ?_
  rintro e w1 ⟨A_a, n_a, c_a, xs_a, rfl, o_a, a_a, v_a, hb1, l_a⟩
  have V_a := Lib.hid v_a
  clear v_a
  clear hmx
  go_wp2_with fail
  refine (digits1_num (H'.out.below hb1) HY.out (by omega)).mono ?_
  rintro e w2 ⟨A_b, n_b, c_b, xs_b, rfl, o_b, a_b, v_b, hb2, l_b⟩
  have V_b := Lib.hid v_b
  clear v_b
  go_wp2_with fail
  refine (plus1_any (K := 4 * M + 1) ((o_a.dig a_a V_a.out l_a).below hb2) (o_b.dig a_b V_b.out l_b) (by omega) (by omega) (by omega) HV.out).mono ?_
  rintro e w3 ⟨A_s, n_s, c_s, xs_s, rfl, o_s, a_s, v_s, hb3, l_s⟩
  have V_s := Lib.hid v_s
  clear v_s
  have HB := Lib.hid (bt (bt hb1 hb2) hb3)
  have QS : Hid (Dgs w3.drew (.slice A_s n_s c_s) z (4 * M + 1)) := by show Dgs _ _ _ _; rw [HZ.out]; exact (o_s.dig a_s V_s.out l_s)
  clear V_a V_b V_s a_a a_b a_s o_a o_b o_s hb1 hb2 hb3 l_a l_b l_s
  go_wp2
  refine wp_region_grow none [(true, 0), (true, 1), (true, 3), (true, 4), (true, 5), (false, 2), (false, 6), (false, 7), (true, 8), (true, 9), (true, 10), (true, 11)] (by kernel_rfl) (by kernel_rfl) ?_
  repeat (refine ord_pas (by rfl) (fun K hK => ?_); go_simp; refine hK _ _ (fun w' hw' => (by go_simp)) ?_; clear hK K)
  (refine ord_call (by rfl) (fun K hK => ?_); go_simp; refine hK _ _ ?_; clear hK K)
  refine (words1_any (m := M) QS.out rfl (by omega) (by omega)).mono ?_
  rintro e w21 ⟨A21, n21, c21, rfl, o21, hb21⟩
  refine ⟨_, rfl, Grow.of_below hb21, ?_⟩
  (refine ord_norm (fun K hK => ?_); go_simp; refine hK _ ?_; clear hK K)
  (refine ord_call (by rfl) (fun K hK => ?_); go_simp; refine hK _ _ ?_; clear hK K)
  refine (from1_any (i := 4 * M) (QS.out.below hb21) hi4.out (by omega)).mono ?_
  rintro e w22 ⟨A22, n22, c22, xs22, rfl, o22, a22, v22, hb22, l22⟩
  rw [HQ.out] at v22
  have V22 := Lib.hid v22
  clear v22
  refine ⟨_, rfl, Grow.of_below hb22, ?_⟩
  (refine ord_norm (fun K hK => ?_); go_simp; refine hK _ ?_; clear hK K)
  (refine ord_call (by rfl) (fun K hK => ?_); go_simp; refine hK _ _ ?_; clear hK K)
  refine (words1_any (m := 1) (o22.dig a22 V22.out l22) rfl (by omega) (by omega)).mono ?_
  rintro e w23 ⟨A23, n23, c23, rfl, o23, hb23⟩
  refine ⟨_, rfl, Grow.of_below hb23, ?_⟩
  (refine ord_norm (fun K hK => ?_); go_simp; refine hK _ ?_; clear hK K)
  obtain ⟨g, rfl, rfl, hc0⟩ := own1 o23 HC.out
  have hc0' : ∀ w', Grow none w23 w' → w'.cell? ⟨g, 0, none⟩ = some (.int .u64 ((q : Nat) : Int)) := fun w' h => h.cell hc0 (by simp)
  repeat (refine ord_pas (by rfl) (fun K hK => ?_); go_simp; refine hK _ _ (fun w' hw' => (by go_simp)) ?_; clear hK K)
  refine ord_nil ?_
  clear hc0 hc0' o23
  go_wp2
  go_ret2
  exact ⟨_, _, _, rfl, ((o21.below hb22).below hb23).mono HB.out.size, bt (bt (bt HB.out.drew hb21) hb22) hb23⟩

theorem sub_K {x n M : Nat} (hx : x < W ^ n) (hn : n ≤ M) : x + D ^ (4 * M) < D ^ (4 * M + 1) := by
  have a : W ^ n ≤ W ^ M := Nat.pow_le_pow_right W_pos hn
  have e : D ^ (4 * M + 1) = W ^ M * D := by rw [Nat.pow_succ, WD_pow]
  rw [e, ← WD_pow, D_eq]
  omega
set_option maxHeartbeats 1000000 in
theorem rsub1_any {A A2 : Option Addr} {n c m c2 : Nat} {xs ys : List Nat} {w : World} (h : Rd .u64 w A n c xs) (h' : Rd .u64 w A2 m c2 ys) (hx : All W xs) (hy : All W ys) (hn : n ≤ 4294967296) (hm : m ≤ 4294967296) :
    Calls Try.prog 66 #[.slice A n c, .slice A2 m c2] w (Gives2 .u64 25 w (wds W (max n m) (val W xs + W ^ (max n m) * brw (val W xs) (val W ys) - val W ys)) (.int .u64 ((brw (val W xs) (val W ys) : Nat) : Int))) := by
  have hmx := fun (ts : Array TypeId) (t : TypeId) => run_max2 (P := Try.prog) ts t n m w
  obtain ⟨M, hM⟩ : ∃ M, M = max n m := ⟨_, rfl⟩
  rw [← hM] at hmx ⊢
  have n1 : n ≤ M := by omega
  have m1 : m ≤ M := by omega
  have M1 : M ≤ 4294967296 := by omega
  have HK := Lib.hid (sub_K (h.vlt hx) n1)
  have HY2 : Hid (val W ys < D ^ (4 * M)) := by
    show _ < _
    rw [← WD_pow]
    exact Nat.lt_of_lt_of_le (h'.vlt hy) (Nat.pow_le_pow_right W_pos m1)
  have HX := Lib.hid hx
  have HY := Lib.hid hy
  have H := Lib.hid h
  have H' := Lib.hid h'
  have hi4 : Hid (4 * (M : Int) = ((4 * M : Nat) : Int)) := by show _ = _; omega
  clear h h' hx hy hM
  by_cases hlt : val W xs < val W ys
  · have eb : brw (val W xs) (val W ys) = 1 := by rw [brw, if_pos hlt]
    have ec : cmpN (val W xs) (val W ys) = -1 := by rw [cmpN, if_pos hlt]
    rw [eb, Nat.mul_one, WD_pow]
    have EC := Lib.hid ec
    clear ec eb hlt
    go_enter Try.func66, Try.ntmps66
    go_wp2_with fail
    refine (digits1_num H.out HX.out (by omega)).mono ?_
    rintro e w1 ⟨A_a, n_a, c_a, xs_a, rfl, o_a, a_a, v_a, hb1, l_a⟩
    have V_a := Lib.hid v_a
    clear v_a
    go_wp2_with fail
    refine (digits1_num (H'.out.below hb1) HY.out (by omega)).mono ?_
    rintro e w2 ⟨A_b, n_b, c_b, xs_b, rfl, o_b, a_b, v_b, hb2, l_b⟩
    have V_b := Lib.hid v_b
    clear v_b
    clear hmx
    go_wp2_with fail
    refine (compare1_any ((o_a.dig a_a V_a.out l_a).below hb2) (o_b.dig a_b V_b.out l_b) (by omega) (by omega)).mono ?_
    rintro e w' ⟨rfl, rfl⟩
    rw [EC.out]
    go_wp2_with fail
    refine (power1_any (n := 4 * M) hi4.out (by omega)).mono ?_
    rintro e w4 ⟨A_p, n_p, c_p, xs_p, rfl, o_p, a_p, v_p, hb4, l_p⟩
    have V_p := Lib.hid v_p
    clear v_p
    go_wp2_with fail
    refine (plus1_any (K := 4 * M + 1) (((o_a.dig a_a V_a.out l_a).below hb2).below hb4) (o_p.dig a_p V_p.out l_p) (by omega) (by omega) (by omega) HK.out).mono ?_
    rintro e w5 ⟨A_s, n_s, c_s, xs_s, rfl, o_s, a_s, v_s, hb5, l_s⟩
    have V_s := Lib.hid v_s
    clear v_s
    go_wp2_with fail
    refine (minus1_any (o_s.dig a_s V_s.out l_s) (((o_b.dig a_b V_b.out l_b).below hb4).below hb5) (by omega) (by omega) (by have := HY2.out; omega)).mono ?_
    rintro e w6 ⟨A_d, n_d, c_d, xs_d, rfl, o_d, a_d, v_d, hb6, l_d⟩
    have V_d := Lib.hid v_d
    clear v_d
    go_wp2_with fail
    refine (words1_any (m := M) (o_d.dig a_d V_d.out l_d) rfl (by omega) (by omega)).mono ?_
    rintro e w7 ⟨A_v, n_v, c_v, rfl, o_v, hb7⟩
    go_wp2
    go_ret2
    exact ⟨_, _, _, rfl, (o_v.mono (bt (bt (bt (bt hb1 hb2) hb4) hb5) hb6).size), (bt (bt (bt (bt (bt hb1 hb2) hb4) hb5) hb6) hb7)⟩
  · have eb : brw (val W xs) (val W ys) = 0 := by rw [brw, if_neg hlt]
    obtain ⟨z, ec, hz0⟩ : ∃ z : Int, cmpN (val W xs) (val W ys) = z ∧ 0 ≤ z := ⟨_, rfl, by rw [cmpN, if_neg hlt]; split <;> omega⟩
    rw [eb, Nat.mul_zero, Nat.add_zero]
    have EC := Lib.hid ec
    have HL := Lib.hid (Nat.le_of_not_lt hlt)
    clear ec eb hlt
    go_enter Try.func66, Try.ntmps66
    go_wp2_with fail
    refine (digits1_num H.out HX.out (by omega)).mono ?_
    rintro e w8 ⟨A_a, n_a, c_a, xs_a, rfl, o_a, a_a, v_a, hb8, l_a⟩
    have V_a := Lib.hid v_a
    clear v_a
    go_wp2_with fail
    refine (digits1_num (H'.out.below hb8) HY.out (by omega)).mono ?_
    rintro e w9 ⟨A_b, n_b, c_b, xs_b, rfl, o_b, a_b, v_b, hb9, l_b⟩
    have V_b := Lib.hid v_b
    clear v_b
    clear hmx
    go_wp2_with fail
    refine (compare1_any ((o_a.dig a_a V_a.out l_a).below hb9) (o_b.dig a_b V_b.out l_b) (by omega) (by omega)).mono ?_
    rintro e w' ⟨rfl, rfl⟩
    rw [EC.out]
    go_wp2_with fail
    refine (minus1_any ((o_a.dig a_a V_a.out l_a).below hb9) (o_b.dig a_b V_b.out l_b) (by omega) (by omega) HL.out).mono ?_
    rintro e w11 ⟨A_d, n_d, c_d, xs_d, rfl, o_d, a_d, v_d, hb11, l_d⟩
    have V_d := Lib.hid v_d
    clear v_d
    go_wp2_with fail
    refine (words1_any (m := M) (o_d.dig a_d V_d.out l_d) rfl (by omega) (by omega)).mono ?_
    rintro e w12 ⟨A_v, n_v, c_v, rfl, o_v, hb12⟩
    go_wp2
    go_ret2
    exact ⟨_, _, _, rfl, (o_v.mono (bt (bt hb8 hb9) hb11).size), (bt (bt (bt hb8 hb9) hb11) hb12)⟩

set_option maxHeartbeats 1000000 in
theorem rmulAdd1_any {A : Option Addr} {n c y z : Nat} {xs : List Nat} {w : World} (h : Rd .u64 w A n c xs) (hx : All W xs) (hy : y < W) (hz : z < W) (hn : n ≤ 4294967296) :
    Calls Try.prog 68 #[.slice A n c, .int .u64 (y : Int), .int .u64 (z : Int)] w (Gives2 .u64 25 w (wds W n (val W xs * y + z)) (.int .u64 (((val W xs * y + z) / W ^ n : Nat) : Int))) := by
  have hv := mad_lt (h.vlt hx) hy hz
  obtain ⟨x, hx0⟩ : ∃ x, x = val W xs := ⟨_, rfl⟩
  have HXV := Lib.hid hx0
  rw [← hx0] at hv ⊢
  obtain ⟨u, hu⟩ : ∃ u, u = x * y + z := ⟨_, rfl⟩
  rw [← hu] at hv ⊢
  have HU := Lib.hid hu
  obtain ⟨q, hq⟩ : ∃ q, q = u / W ^ n := ⟨_, rfl⟩
  rw [← hq]
  have HC : Hid (q < W) := by show _ < _; rw [hq]; exact Nat.div_lt_of_lt_mul hv
  have HQ : Hid (u / D ^ (4 * n) = q) := by show _ = _; rw [hq, WD_pow]
  have HV : Hid (u < D ^ (4 * n + 4)) := by show _ < _; rw [Nat.pow_add, ← WD_pow, ← W_D]; exact hv
  have HX := Lib.hid hx
  have HY := Lib.hid hy
  have HZ := Lib.hid hz
  have H := Lib.hid h
  have hi4 : Hid (4 * (n : Int) = ((4 * n : Nat) : Int)) := by show _ = _; omega
  have s1 := lay (show IntKind.i64.wrap (4 * (n : Int)) = 4 * (n : Int) from IntWalk.i64_in _ (by omega))
  clear h hx hy hz hv hx0 hu hq
  go_enter Try.func68, Try.ntmps68
  go_wp2_with fail
  refine (digits1_num H.out HX.out (by omega)).mono ?_
  rintro e w1 ⟨A_a, n_a, c_a, xs_a, rfl, o_a, a_a, v_a, hb1, l_a⟩
  have V_a := Lib.hid v_a
  clear v_a
  go_wp2_with fail
  refine (digitsW_any (w := w1) HY.out).mono ?_
  rintro e w2 ⟨A_b, n_b, c_b, xs_b, rfl, o_b, a_b, v_b, hb2, l_b⟩
  have V_b := Lib.hid v_b
  clear v_b
  go_wp2_with fail
  refine (times1_any ((o_a.dig a_a V_a.out l_a).below hb2) (o_b.dig a_b V_b.out l_b) (by omega) (by omega)).mono ?_
  rintro e w3 ⟨A_p, n_p, c_p, xs_p, rfl, o_p, a_p, v_p, hb3, l_p⟩
  have V_p := Lib.hid v_p
  clear v_p
  go_wp2_with fail
  refine (digitsW_any (w := w3) HZ.out).mono ?_
  rintro e w4 ⟨A_d, n_d, c_d, xs_d, rfl, o_d, a_d, v_d, hb4, l_d⟩
  have V_d := Lib.hid v_d
  clear v_d
  go_wp2_with fail
  refine (plus1_any (K := 4 * n + 4) ((o_p.dig a_p V_p.out l_p).below hb4) (o_d.dig a_d V_d.out l_d) (by omega) (by omega) (by omega) (by rw [← HXV.out, ← HU.out]; exact HV.out)).mono ?_
  rintro e w5 ⟨A_s, n_s, c_s, xs_s, rfl, o_s, a_s, v_s, hb5, l_s⟩
  have V_s := Lib.hid v_s
  clear v_s
  have HB := Lib.hid (bt (bt (bt (bt hb1 hb2) hb3) hb4) hb5)
  have QS : Hid (Dgs w5.drew (.slice A_s n_s c_s) u (4 * n + 4)) := by show Dgs _ _ _ _; rw [HU.out, HXV.out]; exact (o_s.dig a_s V_s.out l_s)
  clear V_a V_b V_s V_p V_d a_a a_b a_s a_p a_d o_a o_b o_s o_p o_d hb1 hb2 hb3 hb4 hb5 l_a l_b l_s l_p l_d
  go_wp2
  refine wp_region_grow none [(true, 0), (true, 1), (true, 2), (true, 4), (true, 5), (true, 6), (true, 7), (false, 3), (false, 8), (false, 9), (true, 10), (true, 11), (true, 12), (true, 13)] (by kernel_rfl) (by kernel_rfl) ?_
  repeat (refine ord_pas (by rfl) (fun K hK => ?_); go_simp; refine hK _ _ (fun w' hw' => (by go_simp)) ?_; clear hK K)
  (refine ord_call (by rfl) (fun K hK => ?_); go_simp; refine hK _ _ ?_; clear hK K)
  refine (words1_any (m := n) QS.out rfl (by omega) (by omega)).mono ?_
  rintro e w21 ⟨A21, n21, c21, rfl, o21, hb21⟩
  refine ⟨_, rfl, Grow.of_below hb21, ?_⟩
  (refine ord_norm (fun K hK => ?_); go_simp; refine hK _ ?_; clear hK K)
  (refine ord_call (by rfl) (fun K hK => ?_); go_simp; refine hK _ _ ?_; clear hK K)
  refine (from1_any (i := 4 * n) (QS.out.below hb21) hi4.out (by omega)).mono ?_
  rintro e w22 ⟨A22, n22, c22, xs22, rfl, o22, a22, v22, hb22, l22⟩
  rw [HQ.out] at v22
  have V22 := Lib.hid v22
  clear v22
  refine ⟨_, rfl, Grow.of_below hb22, ?_⟩
  (refine ord_norm (fun K hK => ?_); go_simp; refine hK _ ?_; clear hK K)
  (refine ord_call (by rfl) (fun K hK => ?_); go_simp; refine hK _ _ ?_; clear hK K)
  refine (words1_any (m := 1) (o22.dig a22 V22.out l22) rfl (by omega) (by omega)).mono ?_
  rintro e w23 ⟨A23, n23, c23, rfl, o23, hb23⟩
  refine ⟨_, rfl, Grow.of_below hb23, ?_⟩
  (refine ord_norm (fun K hK => ?_); go_simp; refine hK _ ?_; clear hK K)
  obtain ⟨g, rfl, rfl, hc0⟩ := own1 o23 HC.out
  have hc0' : ∀ w', Grow none w23 w' → w'.cell? ⟨g, 0, none⟩ = some (.int .u64 ((q : Nat) : Int)) := fun w' h => h.cell hc0 (by simp)
  repeat (refine ord_pas (by rfl) (fun K hK => ?_); go_simp; refine hK _ _ (fun w' hw' => (by go_simp)) ?_; clear hK K)
  refine ord_nil ?_
  clear hc0 hc0' o23
  go_wp2
  go_ret2
  exact ⟨_, _, _, rfl, ((o21.below hb22).below hb23).mono HB.out.size, bt (bt (bt HB.out.drew hb21) hb22) hb23⟩

set_option maxHeartbeats 400000 in
theorem rdivOne1_zero {v : Value} {w : World} : Calls Try.prog 72 #[v, .int .u64 0] w (Gives3 .u64 25 w [] (.int .u64 0) (.int .i64 1)) := by
  go_enter Try.func72, Try.ntmps72
  go_wp2
  go_ret3
  exact ⟨_, _, _, rfl, Own.nil, Below.refl _ _⟩
set_option maxHeartbeats 1000000 in
theorem rdivOne1_any {A : Option Addr} {n c y : Nat} {xs : List Nat} {w : World} (h : Rd .u64 w A n c xs) (hx : All W xs) (hy0 : 0 < y) (hy : y < W) (hn : n ≤ 4294967296) :
    Calls Try.prog 72 #[.slice A n c, .int .u64 (y : Int)] w (Gives3 .u64 25 w (wds W n (val W xs / y)) (.int .u64 ((val W xs % y : Nat) : Int)) (.int .i64 0)) := by
  have q1 : ((y : Int) == 0) = false := by rw [beq_eq_false_iff_ne]; omega
  have CD := Lib.hid fun (v v2 : Value) (L M : Nat) (w : World) (h : Dgs w v (val W xs) L) (h' : Dgs w v2 y M) (hL : L ≤ 137438953472) (hM : M ≤ 137438953472) => divide1_dig h h' hy0 hL hM
  have HC : Hid (val W xs % y < W) := Nat.lt_trans (Nat.mod_lt _ hy0) hy
  have HX := Lib.hid hx
  have HY := Lib.hid hy
  have H := Lib.hid h
  generalize val W xs / y = q at *
  generalize val W xs % y = r at *
  clear h hx hy
  go_enter Try.func72, Try.ntmps72
  go_wp2_with fail
  refine (digits1_num H.out HX.out (by omega)).mono ?_
  rintro e w1 ⟨A_a, n_a, c_a, xs_a, rfl, o_a, a_a, v_a, hb1, l_a⟩
  have V_a := Lib.hid v_a
  clear v_a
  go_wp2_with fail
  refine (digitsW_any (w := w1) HY.out).mono ?_
  rintro e w2 ⟨A_b, n_b, c_b, xs_b, rfl, o_b, a_b, v_b, hb2, l_b⟩
  have V_b := Lib.hid v_b
  clear v_b
  have CD2 := Lib.hid (CD.out _ _ _ _ _ ((o_a.dig a_a V_a.out l_a).below hb2) (o_b.dig a_b V_b.out l_b) (by omega) (by omega))
  have HB0 := Lib.hid (bt hb1 hb2)
  clear V_a V_b a_a a_b o_a o_b l_a l_b CD
  go_wp2_with fail
  refine CD2.out.mono ?_
  rintro e w3 ⟨A3, n3, c3, A4, n4, c4, xs3, xs4, rfl, o3, a3, v3, l3, o4, a4, v4, l4, hb3⟩
  have D3 : Hid (Dgs w3.drew (.slice A3 n3 c3) q (4 * n)) := o3.drew.dig a3 v3 l3
  have D4 : Hid (Dgs w3.drew (.slice A4 n4 c4) r 5) := o4.drew.dig a4 v4 l4
  have HB : Hid (Below w.heap.size w w3) := bt HB0.out hb3
  clear o3 a3 v3 l3 o4 a4 v4 l4 hb3 HB0 hb1 hb2
  go_wp2
  refine wp_region_grow none [(true, 0), (true, 1), (true, 2), (true, 4), (false, 3), (false, 5), (true, 6), (true, 7), (true, 8), (true, 9), (true, 10)] (by kernel_rfl) (by kernel_rfl) ?_
  repeat (refine ord_pas (by rfl) (fun K hK => ?_); go_simp; refine hK _ _ (fun w' hw' => (by go_simp)) ?_; clear hK K)
  (refine ord_call (by rfl) (fun K hK => ?_); go_simp; refine hK _ _ ?_; clear hK K)
  refine (words1_any (m := n) D3.out rfl (by omega) (by omega)).mono ?_
  rintro e w21 ⟨A21, n21, c21, rfl, o21, hb21⟩
  refine ⟨_, rfl, Grow.of_below hb21, ?_⟩
  (refine ord_norm (fun K hK => ?_); go_simp; refine hK _ ?_; clear hK K)
  (refine ord_call (by rfl) (fun K hK => ?_); go_simp; refine hK _ _ ?_; clear hK K)
  refine (words1_any (m := 1) (D4.out.below hb21) rfl (by omega) (by omega)).mono ?_
  rintro e w23 ⟨A23, n23, c23, rfl, o23, hb23⟩
  refine ⟨_, rfl, Grow.of_below hb23, ?_⟩
  (refine ord_norm (fun K hK => ?_); go_simp; refine hK _ ?_; clear hK K)
  obtain ⟨g, rfl, rfl, hc0⟩ := own1 o23 HC.out
  have hc0' : ∀ w', Grow none w23 w' → w'.cell? ⟨g, 0, none⟩ = some (.int .u64 ((r : Nat) : Int)) := fun w' h => h.cell hc0 (by simp)
  repeat (refine ord_pas (by rfl) (fun K hK => ?_); go_simp; refine hK _ _ (fun w' hw' => (by go_simp)) ?_; clear hK K)
  refine ord_nil ?_
  clear hc0 hc0' o23
  go_wp2
  go_ret3
  exact ⟨_, _, _, rfl, (o21.below hb23).mono HB.out.size, bt (bt HB.out.drew hb21) hb23⟩
end Go.Proofs.Ytgiecdokjmcogaa
