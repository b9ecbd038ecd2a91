/-
  The reference of layer 1: surdref01.from, Add, Sub, MulAdd, DivOne; surdlaw01.copied. The reference of layer 1: surdref01.Add, Sub, MulAdd, DivOne. surdref01.MulSub. LimbSums: Add, Sub, MulAdd, MulSub, DivOne of any lists and words are the document's.
-/
import Derived.Test.YtfpogghlcodncaaDoorFixed
import Derived.Test.YtfpogghlcodncaaDoorMsub
namespace Go.Proofs.YtfpogghlcodncaaDoor
open Go.RowKit
set_option linter.unusedVariables false

theorem Own.lit0 {k : IntKind} {t : TypeId} {B : Nat} (w : World) (hB : B ≤ w.heap.size) : Own k t B (w.alloc (.cells #[] t)) (some ⟨w.heap.size, 0, none⟩) 0 0 [] :=
  Own.lit (k := k) (t := t) w [] (by simp [maxLen]) hB

set_option maxHeartbeats 400000 in
theorem copied_any {A : Option Addr} {n c : Nat} {xs : List Nat} {w : World} (h : Rd .u64 w A n c xs) (hn : n ≤ 1099511627776) :
    Calls Tryd.prog 10 #[.slice A n c] w (Gives .u64 22 w xs) := by
  have H := Lib.hid h
  have HE := Lib.hid elW
  clear h
  go_enter Tryd.func10, Tryd.ntmps10
  go_wp2_with (at_builtin; (refine wpList_app rfl (.tmp 3) (.tmp 4) rfl HE.out (t := 22) (k := .u64) (B := w.heap.size) (xs := []) (ys := xs) rfl rfl (Own.lit0 w (Nat.le_refl _)) (H.out.alloc _) (by omega) (by simp) ?_); intro B1 e1 w1 ho1 hb1 _ _)
  go_ret
  rw [Nat.zero_add] at ho1
  exact ⟨_, _, _, rfl, ho1, (belowA _ _).trans hb1⟩

set_option maxHeartbeats 400000 in
theorem from1_any {v : Value} {x L i : Nat} {i' : Int} {w : World} (h : Dgs w v x L) (hi : i' = (i : Int)) (hL : L ≤ 1099511627776) :
    Calls Tryd.prog 49 #[v, .int .i64 i'] w (GG w (x / D ^ i) L) := by
  subst hi
  obtain ⟨A, n, c, xs, rfl, h1, h2, h3, h4⟩ := h
  subst h3
  by_cases hlt : i < n
  · have hc := h1.cap
    obtain ⟨b, off, ea, _, _⟩ := h1.at hlt
    subst ea
    have R0 := h1.from_ (j := i) (by omega)
    rw [if_neg (by omega)] at R0
    have R1 : Hid (Rd .i64 w (some ⟨b, off + i, none⟩) (n - i) (c - i) (xs.drop i)) := by
      show Rd _ _ _ _ _ _
      have e := addo b off i
      rw [← e]
      exact R0
    clear R0
    have HE := Lib.hid elI
    have HV : Hid (val D (xs.drop i) = val D xs / D ^ i) := by
      show _ = _
      have a := val_append (b := D) (xs.take i) (xs.drop i)
      have b := val_take_lt h2 D_pos i
      rw [List.take_append_drop, List.length_take, Nat.min_eq_left (by have := h1.len; omega)] at a
      rw [a, Nat.add_mul_div_left _ _ (Nat.pow_pos D_pos), Nat.div_eq_of_lt b, Nat.zero_add]
    have HA := Lib.hid (h2.drop i)
    clear h1 h2
    go_enter Tryd.func49, Tryd.ntmps49
    go_wp2_with (at_builtin; (refine wpList_app rfl (.tmp 9) (.tmp 12) rfl HE.out (t := 3) (k := .i64) (B := w.heap.size) (xs := []) (ys := xs.drop i) rfl rfl (Own.lit0 w (Nat.le_refl _)) (R1.out.alloc _) (by omega) (by simp) ?_); intro B1 e1 w1 ho1 hb1 _ _)
    go_ret
    rw [Nat.zero_add] at ho1
    exact ⟨_, _, _, _, rfl, ho1, HA.out, HV.out, (belowA _ _).trans hb1, by omega⟩
  · have HV : Hid (val D xs / D ^ i = 0) := by
      show _ = _
      have := val_lt h2
      rw [h1.len] at this
      exact Nat.div_eq_of_lt (Nat.lt_of_lt_of_le this (Nat.pow_le_pow_right D_pos (by omega)))
    clear h1 h2
    go_enter Tryd.func49, Tryd.ntmps49
    go_wp2
    go_ret
    exact ⟨none, 0, 0, [], rfl, Own.nil, All.nil, HV.out.symm, Below.refl _ _, by omega⟩
end Go.Proofs.YtfpogghlcodncaaDoor
namespace Go.Proofs.YtfpogghlcodncaaDoor
open Go.RowKit
set_option linter.unusedVariables false

theorem WD_pow (n : Nat) : W ^ n = D ^ (4 * n) := by rw [W_D, ← Nat.pow_mul]
theorem lt_D {x n : Nat} (h : x < W ^ n) : x < D ^ (4 * n) := by rw [← WD_pow]; exact h
theorem Rd.vlt {w : World} {A : Option Addr} {n c : Nat} {xs : List Nat} (h : Rd .u64 w A n c xs) (hx : All W xs) : val W xs < W ^ n := by
  have := val_lt hx
  rwa [h.len] at this
theorem plus_lt {x y n m K : Nat} (hx : x < W ^ n) (hy : y < W ^ m) (hK : max n m = K) : x + y < D ^ (4 * K + 1) := by
  have a : W ^ n ≤ W ^ K := Nat.pow_le_pow_right W_pos (by omega)
  have b : W ^ m ≤ W ^ K := Nat.pow_le_pow_right W_pos (by omega)
  have e : D ^ (4 * K + 1) = W ^ K * D := by rw [Nat.pow_succ, WD_pow]
  rw [e, D_eq]
  omega

set_option maxHeartbeats 1000000 in
theorem radd1_any {A A2 : Option Addr} {n c m c2 : Nat} {xs ys : List Nat} {w : World} (h : Rd .u64 w A n c xs) (h' : Rd .u64 w A2 m c2 ys) (hx : All W xs) (hy : All W ys) (hn : n ≤ 4294967296) (hm : m ≤ 4294967296) :
    Calls Tryd.prog 19 #[.slice A n c, .slice A2 m c2] w (Gives2 .u64 22 w (wds W (max n m) (val W xs + val W ys)) (.int .u64 (((val W xs + val W ys) / W ^ (max n m) : Nat) : Int))) := by
  have hmx := fun (ts : Array TypeId) (t : TypeId) => run_max2 (P := Tryd.prog) ts t n m w
  have HC0 := carry_lt (h.vlt hx) (h'.vlt hy)
  obtain ⟨M, hM⟩ : ∃ M, M = max n m := ⟨_, rfl⟩
  have HV := Lib.hid (plus_lt (h.vlt hx) (h'.vlt hy) hM.symm)
  rw [← hM] at hmx HC0 ⊢
  obtain ⟨z, hz⟩ : ∃ z, z = val W xs + val W ys := ⟨_, rfl⟩
  rw [← hz] at HC0 ⊢
  obtain ⟨q, hq⟩ : ∃ q, q = z / W ^ M := ⟨_, rfl⟩
  rw [← hq] at HC0 ⊢
  have HZ := Lib.hid hz
  have HQ : Hid (z / D ^ (4 * M) = q) := by show _ = _; rw [hq, WD_pow]
  have n1 : n ≤ M := by omega
  have m1 : m ≤ M := by omega
  have M1 : M ≤ 4294967296 := by omega
  have HX := Lib.hid hx
  have HY := Lib.hid hy
  have H := Lib.hid h
  have H' := Lib.hid h'
  have HC := Lib.hid HC0
  have hi4 : Hid (4 * (M : Int) = ((4 * M : Nat) : Int)) := by show _ = _; omega
  have s1 := lay (show IntKind.i64.wrap (4 * (M : Int)) = 4 * (M : Int) from IntWalk.i64_in _ (by omega))
  clear h h' hx hy HC0 hM hz hq
  go_enter Tryd.func19, Tryd.ntmps19
  go_wp2_with fail
  refine (digits1_num H.out HX.out (by omega)).mono ?_
  rintro e w1 ⟨A_a, n_a, c_a, xs_a, rfl, o_a, a_a, v_a, hb1, l_a⟩
  have V_a := Lib.hid v_a
  clear v_a
  clear hmx
  go_wp2_with fail
  refine (digits1_num (H'.out.below hb1) HY.out (by omega)).mono ?_
  rintro e w2 ⟨A_b, n_b, c_b, xs_b, rfl, o_b, a_b, v_b, hb2, l_b⟩
  have V_b := Lib.hid v_b
  clear v_b
  go_wp2_with fail
  refine (plus1_any (K := 4 * M + 1) ((o_a.dig a_a V_a.out l_a).below hb2) (o_b.dig a_b V_b.out l_b) (by omega) (by omega) (by omega) HV.out).mono ?_
  rintro e w3 ⟨A_s, n_s, c_s, xs_s, rfl, o_s, a_s, v_s, hb3, l_s⟩
  have V_s := Lib.hid v_s
  clear v_s
  have HB := Lib.hid (bt (bt hb1 hb2) hb3)
  have QS : Hid (Dgs w3.drew (.slice A_s n_s c_s) z (4 * M + 1)) := by show Dgs _ _ _ _; rw [HZ.out]; exact (o_s.dig a_s V_s.out l_s)
  clear V_a V_b V_s a_a a_b a_s o_a o_b o_s hb1 hb2 hb3 l_a l_b l_s
  go_wp2
  refine wp_region_grow none [(true, 0), (true, 1), (true, 3), (true, 4), (true, 5), (false, 2), (false, 6), (false, 7), (true, 8), (true, 9), (true, 10), (true, 11)] (by kernel_rfl) (by kernel_rfl) ?_
  repeat (refine ord_pas (by rfl) (fun K hK => ?_); go_simp; refine hK _ _ (fun w' hw' => (by first | (go_simp; done) | (go_simp; intro hh; cases hh))) ?_; clear hK K)
  (refine ord_call (by rfl) (fun K hK => ?_); go_simp; refine hK _ _ ?_; clear hK K)
  refine (words1_any (m := M) QS.out rfl (by omega) (by omega)).mono ?_
  rintro e w21 ⟨A21, n21, c21, rfl, o21, hb21⟩
  refine ⟨_, rfl, Grow.of_below hb21, ?_⟩
  (refine ord_norm (fun K hK => ?_); go_simp; refine hK _ ?_; clear hK K)
  (refine ord_call (by rfl) (fun K hK => ?_); go_simp; refine hK _ _ ?_; clear hK K)
  refine (from1_any (i := 4 * M) (QS.out.below hb21) hi4.out (by omega)).mono ?_
  rintro e w22 ⟨A22, n22, c22, xs22, rfl, o22, a22, v22, hb22, l22⟩
  rw [HQ.out] at v22
  have V22 := Lib.hid v22
  clear v22
  refine ⟨_, rfl, Grow.of_below hb22, ?_⟩
  (refine ord_norm (fun K hK => ?_); go_simp; refine hK _ ?_; clear hK K)
  (refine ord_call (by rfl) (fun K hK => ?_); go_simp; refine hK _ _ ?_; clear hK K)
  refine (words1_any (m := 1) (o22.dig a22 V22.out l22) rfl (by omega) (by omega)).mono ?_
  rintro e w23 ⟨A23, n23, c23, rfl, o23, hb23⟩
  refine ⟨_, rfl, Grow.of_below hb23, ?_⟩
  (refine ord_norm (fun K hK => ?_); go_simp; refine hK _ ?_; clear hK K)
  obtain ⟨g, rfl, rfl, hc0⟩ := own1 o23 HC.out
  have hc0' : ∀ w', Grow none w23 w' → w'.cell? ⟨g, 0, none⟩ = some (.int .u64 ((q : Nat) : Int)) := fun w' h => h.cell hc0 (by simp)
  repeat (refine ord_pas (by rfl) (fun K hK => ?_); go_simp; refine hK _ _ (fun w' hw' => (by first | (go_simp; done) | (go_simp; intro hh; cases hh))) ?_; clear hK K)
  refine ord_nil ?_
  clear hc0 hc0' o23
  go_wp2
  go_ret2
  exact ⟨_, _, _, rfl, ((o21.below hb22).below hb23).mono HB.out.size, bt (bt (bt HB.out.drew hb21) hb22) hb23⟩

theorem sub_K {x n M : Nat} (hx : x < W ^ n) (hn : n ≤ M) : x + D ^ (4 * M) < D ^ (4 * M + 1) := by
  have a : W ^ n ≤ W ^ M := Nat.pow_le_pow_right W_pos hn
  have e : D ^ (4 * M + 1) = W ^ M * D := by rw [Nat.pow_succ, WD_pow]
  rw [e, ← WD_pow, D_eq]
  omega
set_option maxHeartbeats 1000000 in
theorem rsub1_any {A A2 : Option Addr} {n c m c2 : Nat} {xs ys : List Nat} {w : World} (h : Rd .u64 w A n c xs) (h' : Rd .u64 w A2 m c2 ys) (hx : All W xs) (hy : All W ys) (hn : n ≤ 4294967296) (hm : m ≤ 4294967296) :
    Calls Tryd.prog 20 #[.slice A n c, .slice A2 m c2] w (Gives2 .u64 22 w (wds W (max n m) (val W xs + W ^ (max n m) * brw (val W xs) (val W ys) - val W ys)) (.int .u64 ((brw (val W xs) (val W ys) : Nat) : Int))) := by
  have hmx := fun (ts : Array TypeId) (t : TypeId) => run_max2 (P := Tryd.prog) ts t n m w
  obtain ⟨M, hM⟩ : ∃ M, M = max n m := ⟨_, rfl⟩
  rw [← hM] at hmx ⊢
  have n1 : n ≤ M := by omega
  have m1 : m ≤ M := by omega
  have M1 : M ≤ 4294967296 := by omega
  have HK := Lib.hid (sub_K (h.vlt hx) n1)
  have HY2 : Hid (val W ys < D ^ (4 * M)) := by
    show _ < _
    rw [← WD_pow]
    exact Nat.lt_of_lt_of_le (h'.vlt hy) (Nat.pow_le_pow_right W_pos m1)
  have HX := Lib.hid hx
  have HY := Lib.hid hy
  have H := Lib.hid h
  have H' := Lib.hid h'
  have hi4 : Hid (4 * (M : Int) = ((4 * M : Nat) : Int)) := by show _ = _; omega
  clear h h' hx hy hM
  by_cases hlt : val W xs < val W ys
  · have eb : brw (val W xs) (val W ys) = 1 := by rw [brw, if_pos hlt]
    have ec : cmpN (val W xs) (val W ys) = -1 := by rw [cmpN, if_pos hlt]
    rw [eb, Nat.mul_one, WD_pow]
    have EC := Lib.hid ec
    clear ec eb hlt
    go_enter Tryd.func20, Tryd.ntmps20
    go_wp2_with fail
    refine (digits1_num H.out HX.out (by omega)).mono ?_
    rintro e w1 ⟨A_a, n_a, c_a, xs_a, rfl, o_a, a_a, v_a, hb1, l_a⟩
    have V_a := Lib.hid v_a
    clear v_a
    go_wp2_with fail
    refine (digits1_num (H'.out.below hb1) HY.out (by omega)).mono ?_
    rintro e w2 ⟨A_b, n_b, c_b, xs_b, rfl, o_b, a_b, v_b, hb2, l_b⟩
    have V_b := Lib.hid v_b
    clear v_b
    clear hmx
    go_wp2_with fail
    refine (compare1_any ((o_a.dig a_a V_a.out l_a).below hb2) (o_b.dig a_b V_b.out l_b) (by omega) (by omega)).mono ?_
    rintro e w' ⟨rfl, rfl⟩
    rw [EC.out]
    go_wp2_with fail
    refine (power1_any (n := 4 * M) hi4.out (by omega)).mono ?_
    rintro e w4 ⟨A_p, n_p, c_p, xs_p, rfl, o_p, a_p, v_p, hb4, l_p⟩
    have V_p := Lib.hid v_p
    clear v_p
    go_wp2_with fail
    refine (plus1_any (K := 4 * M + 1) (((o_a.dig a_a V_a.out l_a).below hb2).below hb4) (o_p.dig a_p V_p.out l_p) (by omega) (by omega) (by omega) HK.out).mono ?_
    rintro e w5 ⟨A_s, n_s, c_s, xs_s, rfl, o_s, a_s, v_s, hb5, l_s⟩
    have V_s := Lib.hid v_s
    clear v_s
    go_wp2_with fail
    refine (minus1_any (o_s.dig a_s V_s.out l_s) (((o_b.dig a_b V_b.out l_b).below hb4).below hb5) (by omega) (by omega) (by have := HY2.out; omega)).mono ?_
    rintro e w6 ⟨A_d, n_d, c_d, xs_d, rfl, o_d, a_d, v_d, hb6, l_d⟩
    have V_d := Lib.hid v_d
    clear v_d
    go_wp2_with fail
    refine (words1_any (m := M) (o_d.dig a_d V_d.out l_d) rfl (by omega) (by omega)).mono ?_
    rintro e w7 ⟨A_v, n_v, c_v, rfl, o_v, hb7⟩
    go_wp2
    go_ret2
    exact ⟨_, _, _, rfl, (o_v.mono (bt (bt (bt (bt hb1 hb2) hb4) hb5) hb6).size), (bt (bt (bt (bt (bt hb1 hb2) hb4) hb5) hb6) hb7)⟩
  · have eb : brw (val W xs) (val W ys) = 0 := by rw [brw, if_neg hlt]
    obtain ⟨z, ec, hz0⟩ : ∃ z : Int, cmpN (val W xs) (val W ys) = z ∧ 0 ≤ z := ⟨_, rfl, by rw [cmpN, if_neg hlt]; split <;> omega⟩
    rw [eb, Nat.mul_zero, Nat.add_zero]
    have EC := Lib.hid ec
    have HL := Lib.hid (Nat.le_of_not_lt hlt)
    clear ec eb hlt
    go_enter Tryd.func20, Tryd.ntmps20
    go_wp2_with fail
    refine (digits1_num H.out HX.out (by omega)).mono ?_
    rintro e w8 ⟨A_a, n_a, c_a, xs_a, rfl, o_a, a_a, v_a, hb8, l_a⟩
    have V_a := Lib.hid v_a
    clear v_a
    go_wp2_with fail
    refine (digits1_num (H'.out.below hb8) HY.out (by omega)).mono ?_
    rintro e w9 ⟨A_b, n_b, c_b, xs_b, rfl, o_b, a_b, v_b, hb9, l_b⟩
    have V_b := Lib.hid v_b
    clear v_b
    clear hmx
    go_wp2_with fail
    refine (compare1_any ((o_a.dig a_a V_a.out l_a).below hb9) (o_b.dig a_b V_b.out l_b) (by omega) (by omega)).mono ?_
    rintro e w' ⟨rfl, rfl⟩
    rw [EC.out]
    go_wp2_with fail
    refine (minus1_any ((o_a.dig a_a V_a.out l_a).below hb9) (o_b.dig a_b V_b.out l_b) (by omega) (by omega) HL.out).mono ?_
    rintro e w11 ⟨A_d, n_d, c_d, xs_d, rfl, o_d, a_d, v_d, hb11, l_d⟩
    have V_d := Lib.hid v_d
    clear v_d
    go_wp2_with fail
    refine (words1_any (m := M) (o_d.dig a_d V_d.out l_d) rfl (by omega) (by omega)).mono ?_
    rintro e w12 ⟨A_v, n_v, c_v, rfl, o_v, hb12⟩
    go_wp2
    go_ret2
    exact ⟨_, _, _, rfl, (o_v.mono (bt (bt hb8 hb9) hb11).size), (bt (bt (bt hb8 hb9) hb11) hb12)⟩

set_option maxHeartbeats 1000000 in
theorem rmulAdd1_any {A : Option Addr} {n c y z : Nat} {xs : List Nat} {w : World} (h : Rd .u64 w A n c xs) (hx : All W xs) (hy : y < W) (hz : z < W) (hn : n ≤ 4294967296) :
    Calls Tryd.prog 21 #[.slice A n c, .int .u64 (y : Int), .int .u64 (z : Int)] w (Gives2 .u64 22 w (wds W n (val W xs * y + z)) (.int .u64 (((val W xs * y + z) / W ^ n : Nat) : Int))) := by
  have hv := mad_lt (h.vlt hx) hy hz
  obtain ⟨x, hx0⟩ : ∃ x, x = val W xs := ⟨_, rfl⟩
  have HXV := Lib.hid hx0
  rw [← hx0] at hv ⊢
  obtain ⟨u, hu⟩ : ∃ u, u = x * y + z := ⟨_, rfl⟩
  rw [← hu] at hv ⊢
  have HU := Lib.hid hu
  obtain ⟨q, hq⟩ : ∃ q, q = u / W ^ n := ⟨_, rfl⟩
  rw [← hq]
  have HC : Hid (q < W) := by show _ < _; rw [hq]; exact Nat.div_lt_of_lt_mul hv
  have HQ : Hid (u / D ^ (4 * n) = q) := by show _ = _; rw [hq, WD_pow]
  have HV : Hid (u < D ^ (4 * n + 4)) := by show _ < _; rw [Nat.pow_add, ← WD_pow, ← W_D]; exact hv
  have HX := Lib.hid hx
  have HY := Lib.hid hy
  have HZ := Lib.hid hz
  have H := Lib.hid h
  have hi4 : Hid (4 * (n : Int) = ((4 * n : Nat) : Int)) := by show _ = _; omega
  have s1 := lay (show IntKind.i64.wrap (4 * (n : Int)) = 4 * (n : Int) from IntWalk.i64_in _ (by omega))
  clear h hx hy hz hv hx0 hu hq
  go_enter Tryd.func21, Tryd.ntmps21
  go_wp2_with fail
  refine (digits1_num H.out HX.out (by omega)).mono ?_
  rintro e w1 ⟨A_a, n_a, c_a, xs_a, rfl, o_a, a_a, v_a, hb1, l_a⟩
  have V_a := Lib.hid v_a
  clear v_a
  go_wp2_with fail
  refine (digitsW_any (w := w1) HY.out).mono ?_
  rintro e w2 ⟨A_b, n_b, c_b, xs_b, rfl, o_b, a_b, v_b, hb2, l_b⟩
  have V_b := Lib.hid v_b
  clear v_b
  go_wp2_with fail
  refine (times1_any ((o_a.dig a_a V_a.out l_a).below hb2) (o_b.dig a_b V_b.out l_b) (by omega) (by omega)).mono ?_
  rintro e w3 ⟨A_p, n_p, c_p, xs_p, rfl, o_p, a_p, v_p, hb3, l_p⟩
  have V_p := Lib.hid v_p
  clear v_p
  go_wp2_with fail
  refine (digitsW_any (w := w3) HZ.out).mono ?_
  rintro e w4 ⟨A_d, n_d, c_d, xs_d, rfl, o_d, a_d, v_d, hb4, l_d⟩
  have V_d := Lib.hid v_d
  clear v_d
  go_wp2_with fail
  refine (plus1_any (K := 4 * n + 4) ((o_p.dig a_p V_p.out l_p).below hb4) (o_d.dig a_d V_d.out l_d) (by omega) (by omega) (by omega) (by rw [← HXV.out, ← HU.out]; exact HV.out)).mono ?_
  rintro e w5 ⟨A_s, n_s, c_s, xs_s, rfl, o_s, a_s, v_s, hb5, l_s⟩
  have V_s := Lib.hid v_s
  clear v_s
  have HB := Lib.hid (bt (bt (bt (bt hb1 hb2) hb3) hb4) hb5)
  have QS : Hid (Dgs w5.drew (.slice A_s n_s c_s) u (4 * n + 4)) := by show Dgs _ _ _ _; rw [HU.out, HXV.out]; exact (o_s.dig a_s V_s.out l_s)
  clear V_a V_b V_s V_p V_d a_a a_b a_s a_p a_d o_a o_b o_s o_p o_d hb1 hb2 hb3 hb4 hb5 l_a l_b l_s l_p l_d
  go_wp2
  refine wp_region_grow none [(true, 0), (true, 1), (true, 2), (true, 4), (true, 5), (true, 6), (true, 7), (false, 3), (false, 8), (false, 9), (true, 10), (true, 11), (true, 12), (true, 13)] (by kernel_rfl) (by kernel_rfl) ?_
  repeat (refine ord_pas (by rfl) (fun K hK => ?_); go_simp; refine hK _ _ (fun w' hw' => (by first | (go_simp; done) | (go_simp; intro hh; cases hh))) ?_; clear hK K)
  (refine ord_call (by rfl) (fun K hK => ?_); go_simp; refine hK _ _ ?_; clear hK K)
  refine (words1_any (m := n) QS.out rfl (by omega) (by omega)).mono ?_
  rintro e w21 ⟨A21, n21, c21, rfl, o21, hb21⟩
  refine ⟨_, rfl, Grow.of_below hb21, ?_⟩
  (refine ord_norm (fun K hK => ?_); go_simp; refine hK _ ?_; clear hK K)
  (refine ord_call (by rfl) (fun K hK => ?_); go_simp; refine hK _ _ ?_; clear hK K)
  refine (from1_any (i := 4 * n) (QS.out.below hb21) hi4.out (by omega)).mono ?_
  rintro e w22 ⟨A22, n22, c22, xs22, rfl, o22, a22, v22, hb22, l22⟩
  rw [HQ.out] at v22
  have V22 := Lib.hid v22
  clear v22
  refine ⟨_, rfl, Grow.of_below hb22, ?_⟩
  (refine ord_norm (fun K hK => ?_); go_simp; refine hK _ ?_; clear hK K)
  (refine ord_call (by rfl) (fun K hK => ?_); go_simp; refine hK _ _ ?_; clear hK K)
  refine (words1_any (m := 1) (o22.dig a22 V22.out l22) rfl (by omega) (by omega)).mono ?_
  rintro e w23 ⟨A23, n23, c23, rfl, o23, hb23⟩
  refine ⟨_, rfl, Grow.of_below hb23, ?_⟩
  (refine ord_norm (fun K hK => ?_); go_simp; refine hK _ ?_; clear hK K)
  obtain ⟨g, rfl, rfl, hc0⟩ := own1 o23 HC.out
  have hc0' : ∀ w', Grow none w23 w' → w'.cell? ⟨g, 0, none⟩ = some (.int .u64 ((q : Nat) : Int)) := fun w' h => h.cell hc0 (by simp)
  repeat (refine ord_pas (by rfl) (fun K hK => ?_); go_simp; refine hK _ _ (fun w' hw' => (by first | (go_simp; done) | (go_simp; intro hh; cases hh))) ?_; clear hK K)
  refine ord_nil ?_
  clear hc0 hc0' o23
  go_wp2
  go_ret2
  exact ⟨_, _, _, rfl, ((o21.below hb22).below hb23).mono HB.out.size, bt (bt (bt HB.out.drew hb21) hb22) hb23⟩

set_option maxHeartbeats 400000 in
theorem rdivOne1_zero {v : Value} {w : World} : Calls Tryd.prog 16 #[v, .int .u64 0] w (Gives3 .u64 22 w [] (.int .u64 0) (.int .i64 1)) := by
  go_enter Tryd.func16, Tryd.ntmps16
  go_wp2
  go_ret3
  exact ⟨_, _, _, rfl, Own.nil, Below.refl _ _⟩
set_option maxHeartbeats 1000000 in
theorem rdivOne1_any {A : Option Addr} {n c y : Nat} {xs : List Nat} {w : World} (h : Rd .u64 w A n c xs) (hx : All W xs) (hy0 : 0 < y) (hy : y < W) (hn : n ≤ 4294967296) :
    Calls Tryd.prog 16 #[.slice A n c, .int .u64 (y : Int)] w (Gives3 .u64 22 w (wds W n (val W xs / y)) (.int .u64 ((val W xs % y : Nat) : Int)) (.int .i64 0)) := by
  have q1 : ((y : Int) == 0) = false := by rw [beq_eq_false_iff_ne]; omega
  have CD := Lib.hid fun (v v2 : Value) (L M : Nat) (w : World) (h : Dgs w v (val W xs) L) (h' : Dgs w v2 y M) (hL : L ≤ 137438953472) (hM : M ≤ 137438953472) => divide1_dig h h' hy0 hL hM
  have HC : Hid (val W xs % y < W) := Nat.lt_trans (Nat.mod_lt _ hy0) hy
  have HX := Lib.hid hx
  have HY := Lib.hid hy
  have H := Lib.hid h
  generalize val W xs / y = q at *
  generalize val W xs % y = r at *
  clear h hx hy
  go_enter Tryd.func16, Tryd.ntmps16
  go_wp2_with fail
  refine (digits1_num H.out HX.out (by omega)).mono ?_
  rintro e w1 ⟨A_a, n_a, c_a, xs_a, rfl, o_a, a_a, v_a, hb1, l_a⟩
  have V_a := Lib.hid v_a
  clear v_a
  go_wp2_with fail
  refine (digitsW_any (w := w1) HY.out).mono ?_
  rintro e w2 ⟨A_b, n_b, c_b, xs_b, rfl, o_b, a_b, v_b, hb2, l_b⟩
  have V_b := Lib.hid v_b
  clear v_b
  have CD2 := Lib.hid (CD.out _ _ _ _ _ ((o_a.dig a_a V_a.out l_a).below hb2) (o_b.dig a_b V_b.out l_b) (by omega) (by omega))
  have HB0 := Lib.hid (bt hb1 hb2)
  clear V_a V_b a_a a_b o_a o_b l_a l_b CD
  go_wp2_with fail
  refine CD2.out.mono ?_
  rintro e w3 ⟨A3, n3, c3, A4, n4, c4, xs3, xs4, rfl, o3, a3, v3, l3, o4, a4, v4, l4, hb3⟩
  have D3 : Hid (Dgs w3.drew (.slice A3 n3 c3) q (4 * n)) := o3.drew.dig a3 v3 l3
  have D4 : Hid (Dgs w3.drew (.slice A4 n4 c4) r 5) := o4.drew.dig a4 v4 l4
  have HB : Hid (Below w.heap.size w w3) := bt HB0.out hb3
  clear o3 a3 v3 l3 o4 a4 v4 l4 hb3 HB0 hb1 hb2
  go_wp2
  refine wp_region_grow none [(true, 0), (true, 1), (true, 2), (true, 4), (false, 3), (false, 5), (true, 6), (true, 7), (true, 8), (true, 9), (true, 10)] (by kernel_rfl) (by kernel_rfl) ?_
  repeat (refine ord_pas (by rfl) (fun K hK => ?_); go_simp; refine hK _ _ (fun w' hw' => (by first | (go_simp; done) | (go_simp; intro hh; cases hh))) ?_; clear hK K)
  (refine ord_call (by rfl) (fun K hK => ?_); go_simp; refine hK _ _ ?_; clear hK K)
  refine (words1_any (m := n) D3.out rfl (by omega) (by omega)).mono ?_
  rintro e w21 ⟨A21, n21, c21, rfl, o21, hb21⟩
  refine ⟨_, rfl, Grow.of_below hb21, ?_⟩
  (refine ord_norm (fun K hK => ?_); go_simp; refine hK _ ?_; clear hK K)
  (refine ord_call (by rfl) (fun K hK => ?_); go_simp; refine hK _ _ ?_; clear hK K)
  refine (words1_any (m := 1) (D4.out.below hb21) rfl (by omega) (by omega)).mono ?_
  rintro e w23 ⟨A23, n23, c23, rfl, o23, hb23⟩
  refine ⟨_, rfl, Grow.of_below hb23, ?_⟩
  (refine ord_norm (fun K hK => ?_); go_simp; refine hK _ ?_; clear hK K)
  obtain ⟨g, rfl, rfl, hc0⟩ := own1 o23 HC.out
  have hc0' : ∀ w', Grow none w23 w' → w'.cell? ⟨g, 0, none⟩ = some (.int .u64 ((r : Nat) : Int)) := fun w' h => h.cell hc0 (by simp)
  repeat (refine ord_pas (by rfl) (fun K hK => ?_); go_simp; refine hK _ _ (fun w' hw' => (by first | (go_simp; done) | (go_simp; intro hh; cases hh))) ?_; clear hK K)
  refine ord_nil ?_
  clear hc0 hc0' o23
  go_wp2
  go_ret3
  exact ⟨_, _, _, rfl, (o21.below hb23).mono HB.out.size, bt (bt HB.out.drew hb21) hb23⟩
end Go.Proofs.YtfpogghlcodncaaDoor
namespace Go.Proofs.YtfpogghlcodncaaDoor
open Go.RowKit
set_option linter.unusedVariables false

set_option maxHeartbeats 400000 in
theorem rmulSub1_arg {A A2 : Option Addr} {n c m c2 : Nat} {y : Int} {w : World} (hm : n < m) : Calls Tryd.prog 15 #[.slice A n c, .slice A2 m c2, .int .u64 y] w (Gives3 .u64 22 w [] (.int .u64 0) (.int .i64 3)) := by
  have q1 : decide (n < m) = true := by simpa using hm
  go_enter Tryd.func15, Tryd.ntmps15
  go_wp2
  go_ret3
  exact ⟨_, _, _, rfl, Own.nil, Below.refl _ _⟩

theorem Dgs.nil {w : World} : Dgs w (.slice none 0 0) 0 0 := ⟨none, 0, 0, [], rfl, Rd.nil, All.nil, rfl, Nat.le_refl _⟩

set_option maxHeartbeats 4000000 in
set_option maxRecDepth 100000 in
theorem rmulSub1_any {A A2 : Option Addr} {n c m c2 y : Nat} {xs ys : List Nat} {w : World} (h : Rd .u64 w A n c xs) (h' : Rd .u64 w A2 m c2 ys) (hx : All W xs) (hys : All W ys) (hy : y < W) (hm : m ≤ n) (hn : n ≤ 4294967296) :
    Calls Tryd.prog 15 #[.slice A n c, .slice A2 m c2, .int .u64 (y : Int)] w (Gives3 .u64 22 w (wds W n (val W xs + W ^ n * msb (val W xs) (val W ys * y) (W ^ n) - val W ys * y)) (.int .u64 ((msb (val W xs) (val W ys * y) (W ^ n) : Nat) : Int)) (.int .i64 0)) := by
  have q1 : decide (n < m) = false := by simpa using hm
  have hlt := msb_lt (x := val W xs) (h'.vlt hys) hy hm
  have hxl := h.vlt hx
  have hok := msb_ok (x := val W xs) (p := val W ys * y) (Nat.pow_pos (n := n) W_pos)
  have H := Lib.hid h
  have H2 := Lib.hid h'
  have HX := Lib.hid hx
  have HYS := Lib.hid hys
  have HY := Lib.hid hy
  have HM := Lib.hid hm
  obtain ⟨X, hX⟩ : ∃ X, X = val W xs := ⟨_, rfl⟩
  obtain ⟨P, hP⟩ : ∃ P, P = val W ys * y := ⟨_, rfl⟩
  rw [← hX] at hlt hxl hok ⊢
  rw [← hP] at hlt hok ⊢
  have HXX := Lib.hid hX.symm
  have HPP := Lib.hid hP.symm
  have hi4 : Hid (4 * (n : Int) = ((4 * n : Nat) : Int)) := by show _ = _; omega
  have s1 := lay (show IntKind.i64.wrap (4 * (n : Int)) = 4 * (n : Int) from IntWalk.i64_in _ (by omega))
  have hmB : m ≤ 4294967296 := by omega
  have HXL : Hid (X < D ^ (4 * n)) := by show _ < _; rw [← WD_pow]; exact hxl
  obtain ⟨Q, hQ⟩ : ∃ Q, Q = msb X P (W ^ n) := ⟨_, rfl⟩
  rw [← hQ] at hlt hok ⊢
  have HC := Lib.hid hlt
  have HQQ := Lib.hid hQ
  have HLE2 : Hid (P ≤ X + Q * D ^ (4 * n)) := by show _ ≤ _; rw [← WD_pow, Nat.mul_comm]; exact hok
  have HQW : Hid (X + Q * D ^ (4 * n) - P = X + W ^ n * Q - P) := by show _ = _; rw [WD_pow, Nat.mul_comm]
  have HK : Hid (X + Q * D ^ (4 * n) < D ^ (4 * n + 4 * m + 8)) := by
    show _ < _
    have a : X + Q * D ^ (4 * n) < (Q + 1) * D ^ (4 * n) := by rw [Nat.succ_mul Q]; have := HXL.out; omega
    have b : (Q + 1) * D ^ (4 * n) ≤ W * D ^ (4 * n) := Nat.mul_le_mul_right _ hlt
    have e : W * D ^ (4 * n) = D ^ (4 + 4 * n) := by rw [Nat.pow_add, W_D]
    have d : D ^ (4 + 4 * n) ≤ D ^ (4 * n + 4 * m + 8) := Nat.pow_le_pow_right D_pos (by omega)
    omega
  clear h h' hx hys hy hm hX hP hlt hxl hok hQ
  go_enter Tryd.func15, Tryd.ntmps15
  go_wp2_with fail
  refine (digits1_num H.out HX.out (by omega)).mono ?_
  rintro e w1 ⟨A_a, n_a, c_a, xs_a, rfl, o_a, a_a, v_a, hb1, l_a⟩
  have V_a := Lib.hid v_a
  clear v_a
  rw [HXX.out] at V_a
  go_wp2_with fail
  refine (digits1_num (H2.out.below hb1) HYS.out (by omega)).mono ?_
  rintro e w2 ⟨A_b, n_b, c_b, xs_b, rfl, o_b, a_b, v_b, hb2, l_b⟩
  have V_b := Lib.hid v_b
  clear v_b
  go_wp2_with fail
  refine (digitsW_any (w := w2) HY.out).mono ?_
  rintro e w3 ⟨A_d, n_d, c_d, xs_d, rfl, o_d, a_d, v_d, hb3, l_d⟩
  have V_d := Lib.hid v_d
  clear v_d
  go_wp2_with fail
  refine (times1_any ((o_b.dig a_b V_b.out l_b).below hb3) (o_d.dig a_d V_d.out l_d) (by omega) (by omega)).mono ?_
  rintro e w4 ⟨A_p, n_p, c_p, xs_p, rfl, o_p, a_p, v_p, hb4, l_p⟩
  have V_p := Lib.hid v_p
  clear v_p
  rw [HPP.out] at V_p
  go_wp2_with fail
  refine (compare1_any ((((o_a.dig a_a V_a.out l_a).below hb2).below hb3).below hb4) (o_p.dig a_p V_p.out l_p) (by omega) (by omega)).mono ?_
  rintro e w' ⟨rfl, rfl⟩
  by_cases hle : P ≤ X
  · obtain ⟨z, ec, hz0⟩ : ∃ z : Int, cmpN X P = z ∧ 0 ≤ z := ⟨_, rfl, by rw [cmpN, if_neg (by omega)]; split <;> omega⟩
    rw [ec]
    clear ec
    have e0 : Q = 0 := by rw [HQQ.out]; exact msb_le (Nat.pow_pos W_pos) hle
    have E0 := Lib.hid e0
    have HL := Lib.hid hle
    clear e0 hle
    go_wp2_with fail
    refine (minus1_any ((((o_a.dig a_a V_a.out l_a).below hb2).below hb3).below hb4) (o_p.dig a_p V_p.out l_p) (by omega) (by omega) HL.out).mono ?_
    rintro e w6 ⟨A_l, n_l, c_l, xs_l, rfl, o_l, a_l, v_l, hb6, l_l⟩
    have V_l := Lib.hid v_l
    clear v_l
    go_wp2_with fail
    refine (words1_any (m := n) (o_l.dig a_l V_l.out l_l) rfl (by omega) (by omega)).mono ?_
    rintro e w7 ⟨A_v, n_v, c_v, rfl, o_v, hb7⟩
    go_wp2
    go_ret3
    rw [E0.out]
    exact ⟨_, _, _, rfl, (o_v.mono (bt (bt (bt (bt hb1 hb2) hb3) hb4) hb6).size), (bt (bt (bt (bt (bt hb1 hb2) hb3) hb4) hb6) hb7)⟩
  · have ec : cmpN X P = -1 := by rw [cmpN, if_pos (by omega)]
    rw [ec]
    clear ec
    have HL : Hid (X ≤ P) := by show _ ≤ _; omega
    clear hle
    go_wp2_with fail
    refine (minus1_any (o_p.dig a_p V_p.out l_p) ((((o_a.dig a_a V_a.out l_a).below hb2).below hb3).below hb4) (by omega) (by omega) HL.out).mono ?_
    rintro e w8 ⟨A_l, n_l, c_l, xs_l, rfl, o_l, a_l, v_l, hb8, l_l⟩
    have V_l := Lib.hid v_l
    clear v_l
    go_wp2_with fail
    refine (power1_any (n := 4 * n) hi4.out (by omega)).mono ?_
    rintro e w9 ⟨A_pw, n_pw, c_pw, xs_pw, rfl, o_pw, a_pw, v_pw, hb9, l_pw⟩
    have V_pw := Lib.hid v_pw
    clear v_pw
    have HB := Lib.hid (bt (bt (bt (bt (bt hb1 hb2) hb3) hb4) hb8) hb9)
    have CD := Lib.hid (divide1_dig ((o_l.dig a_l V_l.out l_l).below hb9) (o_pw.dig a_pw V_pw.out l_pw) (Nat.pow_pos D_pos) (by omega) (by omega))
    have XD0 := Lib.hid ((((((o_a.dig a_a V_a.out l_a).below hb2).below hb3).below hb4).below hb8).below hb9)
    have PD0 := Lib.hid (((o_p.dig a_p V_p.out l_p).below hb8).below hb9)
    clear V_b V_d V_l V_pw a_b a_d a_l a_pw o_b o_d o_l o_pw V_a a_a o_a V_p a_p o_p
    go_wp2_with fail
    refine CD.out.mono ?_
    rintro e w20 ⟨A20, n20, c20, A21, n21, c21, xs20, xs21, rfl, o20, a20, v20, l20, o21, a21, v21, l21, hb20⟩
    have Q20 := Lib.hid (o20.dig a20 v20 l20)
    have R20 := Lib.hid (o21.dig a21 v21 l21)
    have B20 := Lib.hid (bt HB.out hb20)
    have XD2 := Lib.hid (XD0.out.below hb20)
    have PD2 := Lib.hid (PD0.out.below hb20)
    clear o20 o21 a20 a21 v20 v21 CD XD0 PD0
    have C3 := Lib.hid (compare1_any (w := w20) R20.out Dgs.nil (by omega) (by omega))
    go_wp2_with fail
    refine C3.out.mono ?_
    rintro e w' ⟨rfl, rfl⟩
    obtain ⟨r, hrr⟩ : ∃ r, r = (P - X) % D ^ (4 * n) := ⟨_, rfl⟩
    rw [← hrr]
    by_cases hr : 0 < r
    · have ec : cmpN r 0 = 1 := by rw [cmpN, if_neg (Nat.not_lt_zero _), if_pos hr]
      rw [ec]
      have eq : Q = (P - X) / D ^ (4 * n) + 1 := by
        rw [HQQ.out, WD_pow]
        exact msb_q1 (Nat.pow_pos D_pos) (by rw [← hrr]; exact hr)
      have C4 : Hid (Calls Tryd.prog 47 #[.slice A20 n20 c20, .slice (some ⟨w20.heap.size, 0, none⟩) 1 1] (w20.alloc (.cells #[.int .i64 1] 3)) (GG (w20.alloc (.cells #[.int .i64 1] 3)) Q (4 * m + 5))) := by
        show Calls _ _ _ _ _
        have := plus1_any (w := w20.alloc (.cells #[.int .i64 1] 3)) (v2 := .slice (some ⟨w20.heap.size, 0, none⟩) 1 1) (y := 1) (M := 1) (K := 4 * m + 5) (Q20.out.below (belowA _ _)) ⟨_, 1, 1, [1], rfl, Rd.lit1 w20 1, All.cons D_gt All.nil, by simp [val], Nat.le_refl _⟩ (by omega) (by omega) (by omega) ?_
        · rw [← eq] at this; exact this
        · rw [← eq]
          refine Nat.lt_of_lt_of_le HC.out ?_
          rw [W_D]
          exact Nat.pow_le_pow_right D_pos (by omega)
      clear hr hrr ec eq
      go_wp2_with fail
      refine C4.out.mono ?_
      rintro e w22 ⟨A22, n22, c22, xs22, rfl, o22, a22, v22, hb22, l22⟩
      have D22 := Lib.hid (o22.dig a22 v22 l22)
      clear o22 a22 v22
      have bA := belowA w20 (.cells #[.int .i64 1] 3)
      have b22 := Lib.hid (bt bA hb22)
      clear bA
      go_wp2
      have QD : Hid (Dgs w22.drew (.slice A22 n22 c22) Q (4 * m + 5)) := D22.out
      have XD : Hid (Dgs w22.drew (.slice A_a n_a c_a) X (4 * n)) := (XD2.out.below b22.out.drew)
      have PD : Hid (Dgs w22.drew (.slice A_p n_p c_p) P (4 * m + 4)) := (PD2.out.below b22.out.drew)
      have BD : Hid (Below w.heap.size w w22) := (bt B20.out b22.out)
      refine wp_region_grow none [(true, 0), (true, 1), (true, 2), (true, 3), (true, 4), (true, 8), (true, 10), (true, 11), (true, 13), (false, 5), (false, 6), (false, 7), (false, 9), (false, 12), (false, 14), (true, 15), (true, 16), (true, 17), (true, 18), (true, 19)] (by kernel_rfl) (by kernel_rfl) ?_
      repeat (refine ord_pas (by rfl) (fun K hK => ?_); go_simp; refine hK _ _ (fun w' hw' => (by first | (go_simp; done) | (go_simp; intro hh; cases hh))) ?_; clear hK K)
      (refine ord_call (by rfl) (fun K hK => ?_); go_simp; refine hK _ _ ?_; clear hK K)
      refine (power1_any (n := 4 * n) hi4.out (by omega)).mono ?_
      rintro e w31 ⟨A31, n31, c31, xs31, rfl, o31, a31, v31, hb31, l31⟩
      have D31 := Lib.hid (o31.dig a31 v31 l31)
      clear v31 a31 o31
      refine ⟨_, rfl, Grow.of_below hb31, ?_⟩
      (refine ord_norm (fun K hK => ?_); go_simp; refine hK _ ?_; clear hK K)
      (refine ord_call (by rfl) (fun K hK => ?_); go_simp; refine hK _ _ ?_; clear hK K)
      refine (times1_any (QD.out.below hb31) D31.out (by omega) (by omega)).mono ?_
      rintro e w32 ⟨A32, n32, c32, xs32, rfl, o32, a32, v32, hb32, l32⟩
      have D32 := Lib.hid (o32.dig a32 v32 l32)
      clear v32 a32 o32
      refine ⟨_, rfl, Grow.of_below hb32, ?_⟩
      (refine ord_norm (fun K hK => ?_); go_simp; refine hK _ ?_; clear hK K)
      (refine ord_call (by rfl) (fun K hK => ?_); go_simp; refine hK _ _ ?_; clear hK K)
      refine (plus1_any (K := 4 * n + 4 * m + 8) ((XD.out.below hb31).below hb32) D32.out (by omega) (by omega) (by omega) HK.out).mono ?_
      rintro e w33 ⟨A33, n33, c33, xs33, rfl, o33, a33, v33, hb33, l33⟩
      have D33 := Lib.hid (o33.dig a33 v33 l33)
      clear v33 a33 o33
      refine ⟨_, rfl, Grow.of_below hb33, ?_⟩
      (refine ord_norm (fun K hK => ?_); go_simp; refine hK _ ?_; clear hK K)
      (refine ord_call (by rfl) (fun K hK => ?_); go_simp; refine hK _ _ ?_; clear hK K)
      refine (minus1_any D33.out (((PD.out.below hb31).below hb32).below hb33) (by omega) (by omega) HLE2.out).mono ?_
      rintro e w34 ⟨A34, n34, c34, xs34, rfl, o34, a34, v34, hb34, l34⟩
      have D34 := Lib.hid (o34.dig a34 v34 l34)
      clear v34 a34 o34
      refine ⟨_, rfl, Grow.of_below hb34, ?_⟩
      (refine ord_norm (fun K hK => ?_); go_simp; refine hK _ ?_; clear hK K)
      (refine ord_call (by rfl) (fun K hK => ?_); go_simp; refine hK _ _ ?_; clear hK K)
      refine (words1_any (m := n) D34.out rfl (by omega) (by omega)).mono ?_
      rintro e w35 ⟨A35, n35, c35, rfl, o35, hb35⟩
      have O35 := Lib.hid o35
      clear o35
      refine ⟨_, rfl, Grow.of_below hb35, ?_⟩
      (refine ord_norm (fun K hK => ?_); go_simp; refine hK _ ?_; clear hK K)
      (refine ord_call (by rfl) (fun K hK => ?_); go_simp; refine hK _ _ ?_; clear hK K)
      refine (words1_any (m := 1) (((((QD.out.below hb31).below hb32).below hb33).below hb34).below hb35) rfl (by omega) (by omega)).mono ?_
      rintro e w36 ⟨A36, n36, c36, rfl, o36, hb36⟩
      refine ⟨_, rfl, Grow.of_below hb36, ?_⟩
      (refine ord_norm (fun K hK => ?_); go_simp; refine hK _ ?_; clear hK K)
      obtain ⟨g, rfl, rfl, hc0⟩ := own1 o36 HC.out
      have hc0' : ∀ w', Grow none w36 w' → w'.cell? ⟨g, 0, none⟩ = some (.int .u64 ((Q : Nat) : Int)) := fun w' h => h.cell hc0 (by simp)
      repeat (refine ord_pas (by rfl) (fun K hK => ?_); go_simp; refine hK _ _ (fun w' hw' => (by first | (go_simp; done) | (go_simp; intro hh; cases hh))) ?_; clear hK K)
      refine ord_nil ?_
      clear hc0 hc0' o36
      go_wp2
      go_ret3
      have BB : Below w.heap.size w w34 := bt (bt (bt (bt BD.out.drew hb31) hb32) hb33) hb34
      refine ⟨_, _, _, rfl, ?_, bt (bt BB hb35) hb36⟩
      have o := (O35.out.below hb36).mono BB.size
      rw [HQW.out] at o
      exact o
    · have ec : cmpN r 0 = 0 := by rw [cmpN, if_neg (Nat.not_lt_zero _), if_neg hr]
      rw [ec]
      have eq : Q = (P - X) / D ^ (4 * n) := by
        rw [HQQ.out, WD_pow]
        exact msb_q (Nat.pow_pos D_pos) (by rw [← hrr]; omega)
      rw [← eq] at Q20
      clear hr hrr ec eq
      go_wp2
      have QD : Hid (Dgs w20.drew (.slice A20 n20 c20) Q (4 * m + 5)) := (Q20.out.more (by omega))
      have XD : Hid (Dgs w20.drew (.slice A_a n_a c_a) X (4 * n)) := XD2.out
      have PD : Hid (Dgs w20.drew (.slice A_p n_p c_p) P (4 * m + 4)) := PD2.out
      have BD : Hid (Below w.heap.size w w20) := B20.out
      refine wp_region_grow none [(true, 0), (true, 1), (true, 2), (true, 3), (true, 4), (true, 8), (true, 10), (true, 11), (true, 13), (false, 5), (false, 6), (false, 7), (false, 9), (false, 12), (false, 14), (true, 15), (true, 16), (true, 17), (true, 18), (true, 19)] (by kernel_rfl) (by kernel_rfl) ?_
      repeat (refine ord_pas (by rfl) (fun K hK => ?_); go_simp; refine hK _ _ (fun w' hw' => (by first | (go_simp; done) | (go_simp; intro hh; cases hh))) ?_; clear hK K)
      (refine ord_call (by rfl) (fun K hK => ?_); go_simp; refine hK _ _ ?_; clear hK K)
      refine (power1_any (n := 4 * n) hi4.out (by omega)).mono ?_
      rintro e w31 ⟨A31, n31, c31, xs31, rfl, o31, a31, v31, hb31, l31⟩
      have D31 := Lib.hid (o31.dig a31 v31 l31)
      clear v31 a31 o31
      refine ⟨_, rfl, Grow.of_below hb31, ?_⟩
      (refine ord_norm (fun K hK => ?_); go_simp; refine hK _ ?_; clear hK K)
      (refine ord_call (by rfl) (fun K hK => ?_); go_simp; refine hK _ _ ?_; clear hK K)
      refine (times1_any (QD.out.below hb31) D31.out (by omega) (by omega)).mono ?_
      rintro e w32 ⟨A32, n32, c32, xs32, rfl, o32, a32, v32, hb32, l32⟩
      have D32 := Lib.hid (o32.dig a32 v32 l32)
      clear v32 a32 o32
      refine ⟨_, rfl, Grow.of_below hb32, ?_⟩
      (refine ord_norm (fun K hK => ?_); go_simp; refine hK _ ?_; clear hK K)
      (refine ord_call (by rfl) (fun K hK => ?_); go_simp; refine hK _ _ ?_; clear hK K)
      refine (plus1_any (K := 4 * n + 4 * m + 8) ((XD.out.below hb31).below hb32) D32.out (by omega) (by omega) (by omega) HK.out).mono ?_
      rintro e w33 ⟨A33, n33, c33, xs33, rfl, o33, a33, v33, hb33, l33⟩
      have D33 := Lib.hid (o33.dig a33 v33 l33)
      clear v33 a33 o33
      refine ⟨_, rfl, Grow.of_below hb33, ?_⟩
      (refine ord_norm (fun K hK => ?_); go_simp; refine hK _ ?_; clear hK K)
      (refine ord_call (by rfl) (fun K hK => ?_); go_simp; refine hK _ _ ?_; clear hK K)
      refine (minus1_any D33.out (((PD.out.below hb31).below hb32).below hb33) (by omega) (by omega) HLE2.out).mono ?_
      rintro e w34 ⟨A34, n34, c34, xs34, rfl, o34, a34, v34, hb34, l34⟩
      have D34 := Lib.hid (o34.dig a34 v34 l34)
      clear v34 a34 o34
      refine ⟨_, rfl, Grow.of_below hb34, ?_⟩
      (refine ord_norm (fun K hK => ?_); go_simp; refine hK _ ?_; clear hK K)
      (refine ord_call (by rfl) (fun K hK => ?_); go_simp; refine hK _ _ ?_; clear hK K)
      refine (words1_any (m := n) D34.out rfl (by omega) (by omega)).mono ?_
      rintro e w35 ⟨A35, n35, c35, rfl, o35, hb35⟩
      have O35 := Lib.hid o35
      clear o35
      refine ⟨_, rfl, Grow.of_below hb35, ?_⟩
      (refine ord_norm (fun K hK => ?_); go_simp; refine hK _ ?_; clear hK K)
      (refine ord_call (by rfl) (fun K hK => ?_); go_simp; refine hK _ _ ?_; clear hK K)
      refine (words1_any (m := 1) (((((QD.out.below hb31).below hb32).below hb33).below hb34).below hb35) rfl (by omega) (by omega)).mono ?_
      rintro e w36 ⟨A36, n36, c36, rfl, o36, hb36⟩
      refine ⟨_, rfl, Grow.of_below hb36, ?_⟩
      (refine ord_norm (fun K hK => ?_); go_simp; refine hK _ ?_; clear hK K)
      obtain ⟨g, rfl, rfl, hc0⟩ := own1 o36 HC.out
      have hc0' : ∀ w', Grow none w36 w' → w'.cell? ⟨g, 0, none⟩ = some (.int .u64 ((Q : Nat) : Int)) := fun w' h => h.cell hc0 (by simp)
      repeat (refine ord_pas (by rfl) (fun K hK => ?_); go_simp; refine hK _ _ (fun w' hw' => (by first | (go_simp; done) | (go_simp; intro hh; cases hh))) ?_; clear hK K)
      refine ord_nil ?_
      clear hc0 hc0' o36
      go_wp2
      go_ret3
      have BB : Below w.heap.size w w34 := bt (bt (bt (bt BD.out.drew hb31) hb32) hb33) hb34
      refine ⟨_, _, _, rfl, ?_, bt (bt BB hb35) hb36⟩
      have o := (O35.out.below hb36).mono BB.size
      rw [HQW.out] at o
      exact o
end Go.Proofs.YtfpogghlcodncaaDoor
namespace Go.Proofs.YtfpogghlcodncaaDoor
open Go.RowKit
set_option linter.unusedVariables false

theorem At.grow {w : World} {p : Addr} {v : Value} (h : At w p v) : ∀ w', Grow none w.drew w' → w'.cell? p = some v := fun w' g => g.cell (p := p) (v := v) h.1 (by simp)
theorem At.grow0 {w : World} {p : Addr} {v : Value} (h : At w p v) : ∀ w', Grow none w w' → w'.cell? p = some v := fun w' g => g.cell (p := p) (v := v) h.1 (by simp)

theorem same1_yes {A A2 : Option Addr} {n c m c2 : Nat} {xs ys : List Nat} {w : World} (h : Rd .u64 w A n c xs) (h' : Rd .u64 w A2 m c2 ys) (e : xs = ys) (hn : n ≤ 1099511627776) :
    Calls Tryd.prog 8 #[.slice A n c, .slice A2 m c2] w (Keeps (.bool true) w) :=
  (same1_any h h' hn).mono fun _ _ ⟨he, q, hq⟩ => ⟨by rw [he, e]; simp, by rw [hq]; exact below_drewN _ _⟩

theorem copiedC_any {A : Option Addr} {n c : Nat} {xs : List Nat} {w : World} (h : Rd .u64 w A n c xs) (hn : n ≤ 1099511627776) :
    Calls Tryd.prog 10 #[.slice A n c] w (fun e w' => ∃ A' c', e = .returned (.slice A' n c') ∧ Own .u64 22 w.heap.size w' A' n c' xs ∧ Below w.heap.size w w') :=
  (copied_any h hn).mono fun _ _ ⟨A', n', c', e, o, hb⟩ => by
    obtain rfl : n' = n := by rw [← o.len, h.len]
    exact ⟨A', c', e, o, hb⟩

theorem msub_both {xs ys : List Nat} {n m y : Nat} (hx : All W xs) (hys : All W ys) (hy : y < W) (hn : n ≤ 4294967296) (hm : m ≤ 4294967296) : ∃ (zs : List Nat) (v u : Int), zs.length ≤ n ∧
    (∀ ⦃A A2 : Option Addr⦄ ⦃c c2 : Nat⦄ ⦃w : World⦄, Rd .u64 w A n c xs → Rd .u64 w A2 m c2 ys → Calls Tryd.prog 29 #[.slice A n c, .slice A2 m c2, .int .u64 (y : Int)] w (Gives3 .u64 22 w zs (.int .u64 v) (.int .i64 u))) ∧
    (∀ ⦃A A2 : Option Addr⦄ ⦃c c2 : Nat⦄ ⦃w : World⦄, Rd .u64 w A n c xs → Rd .u64 w A2 m c2 ys → Calls Tryd.prog 15 #[.slice A n c, .slice A2 m c2, .int .u64 (y : Int)] w (Gives3 .u64 22 w zs (.int .u64 v) (.int .i64 u))) := by
  by_cases h : m ≤ n
  · exact ⟨_, _, _, by rw [wds_length]; exact Nat.le_refl _, fun _ _ _ _ _ h1 h2 => lmulSub_any h1 h2 hx hys rfl hy h (by omega), fun _ _ _ _ _ h1 h2 => rmulSub1_any h1 h2 hx hys hy h hn⟩
  · exact ⟨[], 0, 3, Nat.zero_le _, fun _ _ _ _ _ h1 h2 => lmulSub_arg (by omega), fun _ _ _ _ _ h1 h2 => rmulSub1_arg (by omega)⟩
theorem div_both {xs : List Nat} {n y : Nat} (hx : All W xs) (hy : y < W) (hn : n ≤ 4294967296) : ∃ (zs : List Nat) (v u : Int), zs.length ≤ n ∧
    (∀ ⦃A : Option Addr⦄ ⦃c : Nat⦄ ⦃w : World⦄, Rd .u64 w A n c xs → Calls Tryd.prog 13 #[.slice A n c, .int .u64 (y : Int)] w (Gives3 .u64 22 w zs (.int .u64 v) (.int .i64 u))) ∧
    (∀ ⦃A : Option Addr⦄ ⦃c : Nat⦄ ⦃w : World⦄, Rd .u64 w A n c xs → Calls Tryd.prog 16 #[.slice A n c, .int .u64 (y : Int)] w (Gives3 .u64 22 w zs (.int .u64 v) (.int .i64 u))) := by
  by_cases h : y = 0
  · subst h
    exact ⟨[], 0, 1, Nat.zero_le _, fun _ _ _ h1 => divOne_zero, fun _ _ _ h1 => rdivOne1_zero⟩
  · exact ⟨_, _, _, by rw [wds_length]; exact Nat.le_refl _, fun _ _ _ h1 => divOne_any h1 hx rfl (by omega) hy (by omega), fun _ _ _ h1 => rdivOne1_any h1 hx (by omega) hy hn⟩

end Go.Proofs.YtfpogghlcodncaaDoor
