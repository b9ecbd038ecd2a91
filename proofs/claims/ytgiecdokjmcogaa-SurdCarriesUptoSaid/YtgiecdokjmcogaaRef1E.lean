/-
  The reference of layer 1: surdref01.AddW, SubW, MulW, DivW.
-/
import Derived.Test.YtgiecdokjmcogaaRef1D
namespace Go.Proofs.Ytgiecdokjmcogaa
open Go.RowKit
set_option linter.unusedVariables false

theorem D4 : D ^ 4 = 18446744073709551616 := rfl
theorem D5 : D ^ 5 = 1208925819614629174706176 := rfl
theorem D8 : D ^ 8 = 340282366920938463463374607431768211456 := rfl
theorem D9 : D ^ 9 = 22300745198530623141535718272648361505980416 := rfl

/-- the digits of a list of words -/
theorem digits1_num {A : Option Addr} {n c : Nat} {xs : List Nat} {w : World} (h : Rd .u64 w A n c xs) (hx : All W xs) (hn : n ≤ 137438953472) :
    Calls Try.prog 83 #[.slice A n c] w (GG w (val W xs) (4 * n)) :=
  (digits1_any h hx hn).mono fun e w' ⟨B, m, c', e1, e2, e3⟩ => ⟨B, m, c', _, e1, e2, flat_all xs, val_flat hx, e3, by rw [← e2.len, flat_length, h.len]; exact Nat.le_refl _⟩
/-- the digits of one word -/
theorem digitsW_any {x : Nat} {w : World} (hx : x < W) :
    Calls Try.prog 83 #[.slice (some ⟨w.heap.size, 0, none⟩) 1 1] (w.alloc (.cells #[.int .u64 (x : Int)] 25)) (GG w x 4) :=
  (digits1_num (w := w.alloc (.cells #[.int .u64 (x : Int)] 25)) (xs := [x]) (Rd.lit1 w x) (All.cons hx All.nil) (by omega)).mono fun e w' ⟨B, m, c', xs, e1, e2, e3, e4, e5, e6⟩ =>
    ⟨B, m, c', xs, e1, e2.mono (by simp), e3, by rw [e4]; simp [val], bt ((Below.refl _ _).alloc (Nat.le_refl _) _) e5, e6⟩

/-- two words that a call answers in a new list -/
theorem own2 {B n c x : Nat} {t : TypeId} {w : World} {A : Option Addr} (h : Own .u64 t B w A n c (wds W 2 x)) (hx : x < W * W) :
    ∃ g, A = some ⟨g, 0, none⟩ ∧ n = 2 ∧ w.cell? ⟨g, 0, none⟩ = some (.int .u64 ((lo x : Nat) : Int)) ∧ w.cell? ⟨g, 1, none⟩ = some (.int .u64 ((hi x : Nat) : Int)) := by
  have hn : n = 2 := by rw [← h.len, wds_length]
  subst hn
  obtain ⟨g, rfl, _, _⟩ := h.form (by omega)
  refine ⟨g, rfl, rfl, ?_, ?_⟩
  · have := h.cell (i := 0) (by omega)
    rw [nth_wds (by omega)] at this
    simpa [lo] using this
  · have := h.cell (i := 1) (by omega)
    rw [nth_wds (by omega), Nat.pow_one, Nat.mod_eq_of_lt (Nat.div_lt_of_lt_mul hx)] at this
    exact this
theorem own1 {B n c x : Nat} {t : TypeId} {w : World} {A : Option Addr} (h : Own .u64 t B w A n c (wds W 1 x)) (hx : x < W) :
    ∃ g, A = some ⟨g, 0, none⟩ ∧ n = 1 ∧ w.cell? ⟨g, 0, none⟩ = some (.int .u64 (x : Int)) := by
  have hn : n = 1 := by rw [← h.len, wds_length]
  subst hn
  obtain ⟨g, rfl, _, _⟩ := h.form (by omega)
  refine ⟨g, rfl, rfl, ?_⟩
  have := h.cell (i := 0) (by omega)
  rw [nth_wds (by omega), Nat.pow_zero, Nat.div_one, Nat.mod_eq_of_lt hx] at this
  exact this

set_option maxHeartbeats 1000000 in
theorem addW1_any {x y c : Nat} {w : World} (hx : x < W) (hy : y < W) (hc : c < W) :
    Calls Try.prog 38 #[.int .u64 (x : Int), .int .u64 (y : Int), .int .u64 (c : Int)] w (Keeps (.tuple #[.int .u64 ((lo (x + y + c) : Nat) : Int), .int .u64 ((hi (x + y + c) : Nat) : Int)]) w) := by
  have HX := Lib.hid hx
  have HY := Lib.hid hy
  have HC := Lib.hid hc
  have HV0 : Hid (x + y < D ^ 5) := by show _ < _; rw [D5]; rw [W_eq] at *; omega
  have HV1 : Hid (x + y + c < D ^ 5) := by show _ < _; rw [D5]; rw [W_eq] at *; omega
  have HV2 : Hid (x + y + c < W * W) := by show _ < _; rw [W_eq] at *; omega
  clear hx hy hc
  go_enter Try.func38, Try.ntmps38
  go_wp2_with fail
  refine (digitsW_any (w := w) HX.out).mono ?_
  rintro e w1 ⟨A_a, n_a, c_a, xs_a, rfl, o_a, a_a, v_a, hb1, l_a⟩
  have V_a := Lib.hid v_a
  clear v_a
  go_wp2_with fail
  refine (digitsW_any (w := w1) HY.out).mono ?_
  rintro e w2 ⟨A_b, n_b, c_b, xs_b, rfl, o_b, a_b, v_b, hb2, l_b⟩
  have V_b := Lib.hid v_b
  clear v_b
  go_wp2_with fail
  refine (plus1_any (K := 5) ((o_a.dig a_a V_a.out l_a).below hb2) (o_b.dig a_b V_b.out l_b) (by omega) (by omega) (by omega) HV0.out).mono ?_
  rintro e w3 ⟨A_s, n_s, c_s, xs_s, rfl, o_s, a_s, v_s, hb3, l_s⟩
  have V_s := Lib.hid v_s
  clear v_s
  go_wp2_with fail
  refine (digitsW_any (w := w3) HC.out).mono ?_
  rintro e w4 ⟨A_d, n_d, c_d, xs_d, rfl, o_d, a_d, v_d, hb4, l_d⟩
  have V_d := Lib.hid v_d
  clear v_d
  go_wp2_with fail
  refine (plus1_any (K := 5) ((o_s.dig a_s V_s.out l_s).below hb4) (o_d.dig a_d V_d.out l_d) (by omega) (by omega) (by omega) HV1.out).mono ?_
  rintro e w5 ⟨A_t, n_t, c_t, xs_t, rfl, o_t, a_t, v_t, hb5, l_t⟩
  have V_t := Lib.hid v_t
  clear v_t
  go_wp2_with fail
  refine (words1_any (m := 2) (o_t.dig a_t V_t.out l_t) rfl (by omega) (by omega)).mono ?_
  rintro e w6 ⟨A_v, n_v, c_v, rfl, o_v, hb6⟩
  clear V_a V_b V_s V_d V_t
  have HB := Lib.hid (bt (bt (bt (bt (bt hb1 hb2) hb3) hb4) hb5) hb6)
  obtain ⟨g, rfl, rfl, hc0, hc1⟩ := own2 o_v HV2.out
  have hc0' : ∀ w', Grow none (World.drew w6) w' → w'.cell? ⟨g, 0, none⟩ = some (.int .u64 ((lo (x + y + c) : Nat) : Int)) := fun w' h => h.cell hc0 (by simp)
  have hc1' : ∀ w', Grow none (World.drew w6) w' → w'.cell? ⟨g, 1, none⟩ = some (.int .u64 ((hi (x + y + c) : Nat) : Int)) := fun w' h => h.cell hc1 (by simp)
  go_wp2
  refine wp_region_grow none [(true, 0), (true, 1), (true, 2), (true, 3), (true, 4), (true, 5), (true, 6), (true, 7)] (by kernel_rfl) (by kernel_rfl) ?_
  repeat (refine ord_pas (by rfl) (fun K hK => ?_); go_simp; refine hK _ _ (fun w' hw' => (by go_simp)) ?_; clear hK K)
  refine ord_nil ?_
  clear hc0' hc1' hc0 hc1
  go_wp2
  go_ret2
  exact ⟨rfl, HB.out.drew⟩
set_option maxHeartbeats 1000000 in
theorem mulW1_any {x y a b : Nat} {w : World} (hx : x < W) (hy : y < W) (ha : a < W) (hb : b < W) :
    Calls Try.prog 42 #[.int .u64 (x : Int), .int .u64 (y : Int), .int .u64 (a : Int), .int .u64 (b : Int)] w (Keeps (.tuple #[.int .u64 ((hi (x * y + a + b) : Nat) : Int), .int .u64 ((lo (x * y + a + b) : Nat) : Int)]) w) := by
  have HX := Lib.hid hx
  have HY := Lib.hid hy
  have HA := Lib.hid ha
  have HB := Lib.hid hb
  have hm : x * y ≤ 18446744073709551615 * 18446744073709551615 := Nat.mul_le_mul (by rw [W_eq] at *; omega) (by rw [W_eq] at *; omega)
  have HV2 : Hid (x * y + a + b < W * W) := by show _ < _; rw [W_eq] at *; omega
  have HV0 : Hid (x * y + a < D ^ 8) := by show _ < _; rw [D8]; rw [W_eq] at *; omega
  have HV1 : Hid (x * y + a + b < D ^ 8) := by show _ < _; rw [D8]; rw [W_eq] at *; omega
  clear hx hy ha hb hm
  go_enter Try.func42, Try.ntmps42
  go_wp2_with fail
  refine (digitsW_any (w := w) HX.out).mono ?_
  rintro e w1 ⟨A_x, n_x, c_x, xs_x, rfl, o_x, a_x, v_x, hb1, l_x⟩
  have V_x := Lib.hid v_x
  clear v_x
  go_wp2_with fail
  refine (digitsW_any (w := w1) HY.out).mono ?_
  rintro e w2 ⟨A_y, n_y, c_y, xs_y, rfl, o_y, a_y, v_y, hb2, l_y⟩
  have V_y := Lib.hid v_y
  clear v_y
  go_wp2_with fail
  refine (times1_any ((o_x.dig a_x V_x.out l_x).below hb2) (o_y.dig a_y V_y.out l_y) (by omega) (by omega)).mono ?_
  rintro e w3 ⟨A_p, n_p, c_p, xs_p, rfl, o_p, a_p, v_p, hb3, l_p⟩
  have V_p := Lib.hid v_p
  clear v_p
  go_wp2_with fail
  refine (digitsW_any (w := w3) HA.out).mono ?_
  rintro e w4 ⟨A_a, n_a, c_a, xs_a, rfl, o_a, a_a, v_a, hb4, l_a⟩
  have V_a := Lib.hid v_a
  clear v_a
  go_wp2_with fail
  refine (plus1_any (K := 8) ((o_p.dig a_p V_p.out l_p).below hb4) (o_a.dig a_a V_a.out l_a) (by omega) (by omega) (by omega) HV0.out).mono ?_
  rintro e w5 ⟨A_s, n_s, c_s, xs_s, rfl, o_s, a_s, v_s, hb5, l_s⟩
  have V_s := Lib.hid v_s
  clear v_s
  go_wp2_with fail
  refine (digitsW_any (w := w5) HB.out).mono ?_
  rintro e w6 ⟨A_b, n_b, c_b, xs_b, rfl, o_b, a_b, v_b, hb6, l_b⟩
  have V_b := Lib.hid v_b
  clear v_b
  go_wp2_with fail
  refine (plus1_any (K := 8) ((o_s.dig a_s V_s.out l_s).below hb6) (o_b.dig a_b V_b.out l_b) (by omega) (by omega) (by omega) HV1.out).mono ?_
  rintro e w7 ⟨A_t, n_t, c_t, xs_t, rfl, o_t, a_t, v_t, hb7, l_t⟩
  have V_t := Lib.hid v_t
  clear v_t
  go_wp2_with fail
  refine (words1_any (m := 2) (o_t.dig a_t V_t.out l_t) rfl (by omega) (by omega)).mono ?_
  rintro e w8 ⟨A_v, n_v, c_v, rfl, o_v, hb8⟩
  clear V_x V_y V_p V_a V_s V_b V_t
  generalize x * y + a + b = z at *
  have HB := Lib.hid (bt (bt (bt (bt (bt (bt (bt hb1 hb2) hb3) hb4) hb5) hb6) hb7) hb8)
  obtain ⟨g, rfl, rfl, hc0, hc1⟩ := own2 o_v HV2.out
  have hc0' : ∀ w', Grow none (World.drew w8) w' → w'.cell? ⟨g, 0, none⟩ = some (.int .u64 ((lo z : Nat) : Int)) := fun w' h => h.cell hc0 (by simp)
  have hc1' : ∀ w', Grow none (World.drew w8) w' → w'.cell? ⟨g, 1, none⟩ = some (.int .u64 ((hi z : Nat) : Int)) := fun w' h => h.cell hc1 (by simp)
  go_wp2
  refine wp_region_grow none [(true, 0), (true, 1), (true, 2), (true, 3), (true, 4), (true, 5), (true, 6), (true, 7)] (by kernel_rfl) (by kernel_rfl) ?_
  repeat (refine ord_pas (by rfl) (fun K hK => ?_); go_simp; refine hK _ _ (fun w' hw' => (by go_simp)) ?_; clear hK K)
  refine ord_nil ?_
  clear hc0' hc1' hc0 hc1
  go_wp2
  go_ret2
  exact ⟨rfl, HB.out.drew⟩

theorem sub_val {x j : Nat} : x + j * W + D ^ 4 = x + (j + 1) * W := by rw [D4, W_eq]; omega
theorem sub_next {x y c j : Nat} (h : x + j * W < y + c) : x + (j + 1) * W < y + c + W := by rw [Nat.succ_mul]; omega
theorem sub_two {x y c j : Nat} (hy : y < W) (hc : c < W) (h : x + j * W < y + c) : j < 2 := by rw [W_eq] at *; omega
theorem sub_lt {x j : Nat} (hx : x < W) (hj : j < 2) : x + j * W + D ^ 4 < D ^ 5 := by rw [D4, D5]; rw [W_eq] at *; omega
theorem borrows_uniq {x y c j : Nat} (hx : x < W) (hy : y < W) (hc : c < W) (hj : j ≤ 2) (h1 : y + c ≤ x + j * W) (h2 : j = 0 ∨ x + j * W < y + c + W) : borrows x y c = j ∧ subw x y c = x + j * W - (y + c) ∧ x + j * W - (y + c) < W := by
  have h := sub_words_eq x y c hx hy hc
  generalize borrows x y c = b at *
  generalize subw x y c = d at *
  rw [W_eq] at *
  omega
set_option maxHeartbeats 1000000 in
theorem subW1_any {x y c : Nat} {w : World} (hx : x < W) (hy : y < W) (hc : c < W) :
    Calls Try.prog 40 #[.int .u64 (x : Int), .int .u64 (y : Int), .int .u64 (c : Int)] w (Keeps (.tuple #[.int .u64 ((subw x y c : Nat) : Int), .int .u64 ((borrows x y c : Nat) : Int)]) w) := by
  have HX := Lib.hid hx
  have HY := Lib.hid hy
  have HC := Lib.hid hc
  have HV0 : Hid (y + c < D ^ 5) := by show _ < _; rw [D5]; rw [W_eq] at *; omega
  clear hx hy hc
  go_enter Try.func40, Try.ntmps40
  go_wp2_with fail
  refine (digitsW_any (w := w) HY.out).mono ?_
  rintro e w1 ⟨A_a, n_a, c_a, xs_a, rfl, o_a, a_a, v_a, hb1, l_a⟩
  have V_a := Lib.hid v_a
  clear v_a
  go_wp2_with fail
  refine (digitsW_any (w := w1) HC.out).mono ?_
  rintro e w2 ⟨A_b, n_b, c_b, xs_b, rfl, o_b, a_b, v_b, hb2, l_b⟩
  have V_b := Lib.hid v_b
  clear v_b
  go_wp2_with fail
  refine (plus1_any (K := 5) ((o_a.dig a_a V_a.out l_a).below hb2) (o_b.dig a_b V_b.out l_b) (by omega) (by omega) (by omega) HV0.out).mono ?_
  rintro e w3 ⟨A_s, n_s, c_s, xs_s, rfl, o_s, a_s, v_s, hb3, l_s⟩
  have V_s := Lib.hid v_s
  clear v_s
  go_wp2_with fail
  refine (digitsW_any (w := w3) HX.out).mono ?_
  rintro e w4 ⟨A_x, n_x, c_x, xs_x, rfl, o_x, a_x, v_x, hb4, l_x⟩
  have V_x := Lib.hid v_x
  clear v_x
  have HS : Hid (Dgs w4 (.slice A_s n_s c_s) (y + c) 5 ∧ Below w.heap.size w w4) := ⟨((o_s.dig a_s V_s.out l_s).below hb4), (bt (bt (bt hb1 hb2) hb3) hb4)⟩
  have H0 : Hid (Dgs w4 (.slice A_x n_x c_x) x 5) := Dgs.more (o_x.dig a_x V_x.out l_x) (by omega)
  clear V_a V_b V_s V_x a_a a_b a_s a_x o_a o_b o_s o_x hb1 hb2 hb3 hb4 l_a l_b l_s l_x
  go_wp2
  go_loopw [9, 10] (fun hv nv wr => ∃ (j : Nat), Hid (Dgs wr hv (x + j * W) 5 ∧ (j = 0 ∨ x + j * W < y + c + W) ∧ Below w4.heap.size w4 wr) ∧ j ≤ 2 ∧ nv = .int .u64 j) (fun _ nv _ => 3 - (intOf nv).toNat)
  case atStart => exact ⟨0, ⟨by simpa using H0.out, .inl rfl, Below.refl _ _⟩, by omega, rfl⟩
  case round =>
    rename_i hv nv
    obtain ⟨j, hI, hj, rfl⟩ := hrel
    obtain ⟨i1, i2, i3⟩ := hI.out
    have CC := Lib.hid (compare1_any (w := wr) i1 (HS.out.1.below i3) (by omega) (by omega))
    clear i1 i2 i3
    go_wp2_with fail
    refine CC.out.mono ?_
    rintro e w' ⟨rfl, rfl⟩
    by_cases hlt : x + j * W < y + c
    · have ec : cmpN (x + j * W) (y + c) = -1 := by rw [cmpN, if_pos hlt]
      have hj2 : j < 2 := sub_two HY.out HC.out hlt
      have CP := Lib.hid (power1_any (w := wr) (n := 4) (n' := 4) rfl (by omega))
      have HL := Lib.hid hlt
      rw [ec]
      clear hlt ec
      go_wp2_with fail
      refine CP.out.mono ?_
      rintro e w5 ⟨A5, n5, c5, xs5, rfl, o5, a5, v5, hb5, l5⟩
      have CQ := Lib.hid (plus1_any (w := w5) (K := 5) (hI.out.1.below hb5) (o5.dig a5 v5 l5) (by omega) (by omega) (by omega) (sub_lt HX.out hj2))
      have HB5 := Lib.hid (bt hI.out.2.2 hb5)
      clear o5 a5 v5 hb5 l5
      go_wp2_with fail
      refine CQ.out.mono ?_
      rintro e w6 ⟨A6, n6, c6, xs6, rfl, o6, a6, v6, hb6, l6⟩
      have HE6 : Hid (Dgs w6 (.slice A6 n6 c6) (x + (j + 1) * W) 5 ∧ x + (j + 1) * W < y + c + W ∧ Below w4.heap.size w4 w6) := by
        refine ⟨o6.dig a6 ?_ l6, ?_, bt HB5.out hb6⟩
        · rw [v6]; exact sub_val
        · exact sub_next HL.out
      clear o6 a6 v6 hb6 l6
      go_wp2
      go_roundw
      case rel => exact ⟨j + 1, ⟨HE6.out.1, .inr HE6.out.2.1, HE6.out.2.2⟩, by omega, by go_num⟩
      case measure => simp [intOf]; omega
    · obtain ⟨z, hz, hz0⟩ : ∃ z : Int, cmpN (x + j * W) (y + c) = z ∧ 0 ≤ z := ⟨_, rfl, by rw [cmpN, if_neg hlt]; split <;> omega⟩
      have HU := Lib.hid (borrows_uniq HX.out HY.out HC.out hj (Nat.le_of_not_lt hlt) hI.out.2.1)
      have CM := Lib.hid (minus1_any (w := wr) hI.out.1 (HS.out.1.below hI.out.2.2) (by omega) (by omega) (Nat.le_of_not_lt hlt))
      rw [hz]
      clear hlt hz
      go_wp2_with fail
      refine CM.out.mono ?_
      rintro e w5 ⟨A5, n5, c5, xs5, rfl, o5, a5, v5, hb5, l5⟩
      have CW := Lib.hid (words1_any (w := w5) (m := 1) (m' := 1) (o5.dig a5 v5 l5) rfl (by omega) (by omega))
      have HB5 := Lib.hid (bt (bt HS.out.2 hI.out.2.2) hb5)
      clear o5 a5 v5 hb5 l5
      go_wp2_with fail
      refine CW.out.mono ?_
      rintro e w6 ⟨A6, n6, c6, rfl, o6, hb6⟩
      obtain ⟨g, rfl, rfl, hc0⟩ := own1 o6 HU.out.2.2
      have HB6 := Lib.hid (bt HB5.out hb6)
      generalize x + j * W - (y + c) = r at *
      clear o6 hb6
      go_wp2
      go_ret2
      rw [HU.out.1, HU.out.2.1]
      exact ⟨rfl, HB6.out⟩

theorem digitsW2_any {x y : Nat} {w : World} (hx : x < W) (hy : y < W) :
    Calls Try.prog 83 #[.slice (some ⟨w.heap.size, 0, none⟩) 2 2] (w.alloc (.cells #[.int .u64 (x : Int), .int .u64 (y : Int)] 25)) (GG w (y * W + x) 8) :=
  (digits1_num (w := w.alloc (.cells #[.int .u64 (x : Int), .int .u64 (y : Int)] 25)) (xs := [x, y]) (Own.lit (k := .u64) (t := 25) (B := 0) w [x, y] (by simp [maxLen]) (Nat.zero_le _)).rd (All.cons hx (All.cons hy All.nil)) (by simp)).mono fun e w' ⟨B, m, c', xs, e1, e2, e3, e4, e5, e6⟩ =>
    ⟨B, m, c', xs, e1, e2.mono (by simp), e3, by rw [e4]; simp [val]; rw [Nat.mul_comm]; omega, bt ((Below.refl _ _).alloc (Nat.le_refl _) _) e5, e6⟩
theorem divide1_dig {v v2 : Value} {x y L M : Nat} {w : World} (h : Dgs w v x L) (h' : Dgs w v2 y M) (hy0 : 0 < y) (hL : L ≤ 137438953472) (hM : M ≤ 137438953472) :
    Calls Try.prog 88 #[v, v2] w (GG2 w (x / y) L (x % y) (M + 1)) := by
  obtain ⟨A, n, c, xs, rfl, h1, h2, h3, h4⟩ := h
  obtain ⟨A2, m, c2, ys, rfl, g1, g2, g3, g4⟩ := h'
  subst h3
  exact (divide1_any h1 g1 h2 g2 g3 hy0 (by omega) (by omega)).mono fun e w' ⟨A, n, c, A2, n2, c2, xs, ys, e1, e2, e3, e4, e5, e6, e7, e8, e9, e0⟩ => ⟨A, n, c, A2, n2, c2, xs, ys, e1, e2, e3, e4, by omega, e6, e7, e8, by omega, e0⟩
set_option maxHeartbeats 400000 in
theorem divW1_zero {h l : Int} {w : World} : Calls Try.prog 44 #[.int .u64 h, .int .u64 l, .int .u64 0] w (Keeps (.tuple #[.int .u64 0, .int .u64 0, .int .i64 1]) w) := by
  go_enter Try.func44, Try.ntmps44
  go_wp2
  go_ret3
  exact ⟨rfl, Below.refl _ _⟩
set_option maxHeartbeats 400000 in
theorem divW1_arg {h y : Nat} {l : Int} {w : World} (h0 : 0 < y) (hh : y ≤ h) : Calls Try.prog 44 #[.int .u64 (h : Int), .int .u64 l, .int .u64 (y : Int)] w (Keeps (.tuple #[.int .u64 0, .int .u64 0, .int .i64 3]) w) := by
  have q1 : ((y : Int) == 0) = false := by rw [beq_eq_false_iff_ne]; omega
  go_enter Try.func44, Try.ntmps44
  go_wp2
  go_ret3
  exact ⟨rfl, Below.refl _ _⟩
set_option maxHeartbeats 1000000 in
theorem divW1_any {h l y : Nat} {w : World} (hl : l < W) (hh : h < y) (hy : y < W) :
    Calls Try.prog 44 #[.int .u64 (h : Int), .int .u64 (l : Int), .int .u64 (y : Int)] w (Keeps (.tuple #[.int .u64 (((h * W + l) / y : Nat) : Int), .int .u64 (((h * W + l) % y : Nat) : Int), .int .i64 0]) w) := by
  have q1 : ((y : Int) == 0) = false := by rw [beq_eq_false_iff_ne]; omega
  have q2 : ¬ y ≤ h := by omega
  have HL := Lib.hid hl
  have HH : Hid (h < W) := Nat.lt_trans hh hy
  have HY := Lib.hid hy
  have h0 : 0 < y := by omega
  have HQ : Hid ((h * W + l) / y < W) := by
    show _ < _
    refine Nat.div_lt_of_lt_mul ?_
    have : (h + 1) * W ≤ y * W := Nat.mul_le_mul_right _ hh
    rw [Nat.add_mul] at this
    omega
  have HR : Hid ((h * W + l) % y < W) := Nat.lt_trans (Nat.mod_lt _ h0) hy
  clear hl hh hy
  go_enter Try.func44, Try.ntmps44
  go_wp2_with fail
  refine (digitsW2_any (w := w) HL.out HH.out).mono ?_
  rintro e w1 ⟨A_a, n_a, c_a, xs_a, rfl, o_a, a_a, v_a, hb1, l_a⟩
  have V_a := Lib.hid v_a
  clear v_a
  go_wp2_with fail
  refine (digitsW_any (w := w1) HY.out).mono ?_
  rintro e w2 ⟨A_b, n_b, c_b, xs_b, rfl, o_b, a_b, v_b, hb2, l_b⟩
  have V_b := Lib.hid v_b
  clear v_b
  have CD := Lib.hid (divide1_dig ((o_a.dig a_a V_a.out l_a).below hb2) (o_b.dig a_b V_b.out l_b) h0 (by omega) (by omega))
  have HB0 := Lib.hid (bt hb1 hb2)
  clear V_a V_b a_a a_b o_a o_b l_a l_b
  generalize (h * W + l) / y = qq at *
  generalize (h * W + l) % y = rr at *
  go_wp2_with fail
  refine CD.out.mono ?_
  rintro e w3 ⟨A3, n3, c3, A4, n4, c4, xs3, xs4, rfl, o3, a3, v3, l3, o4, a4, v4, l4, hb3⟩
  have D3 : Hid (Dgs w3.drew (.slice A3 n3 c3) qq 8) := o3.drew.dig a3 v3 l3
  have D4 : Hid (Dgs w3.drew (.slice A4 n4 c4) rr 5) := o4.drew.dig a4 v4 l4
  have HB3 : Hid (Below w.heap.size w w3.drew) := (bt HB0.out hb3).drew
  clear o3 a3 v3 l3 o4 a4 v4 l4 hb3 HB0 hb1 hb2
  go_wp2
  refine wp_region_grow none [(true, 0), (true, 4), (false, 1), (true, 2), (true, 3), (false, 5), (true, 6), (true, 7), (true, 8), (true, 9), (true, 10)] (by kernel_rfl) (by kernel_rfl) ?_
  repeat (refine ord_pas (by rfl) (fun K hK => ?_); go_simp; refine hK _ _ (fun w' hw' => (by go_simp)) ?_; clear hK K)
  (refine ord_call (by rfl) (fun K hK => ?_); go_simp; refine hK _ _ ?_; clear hK K)
  refine (words1_any (m := 1) D3.out rfl (by omega) (by omega)).mono ?_
  rintro e w5 ⟨A5, n5, c5, rfl, o5, hb5⟩
  refine ⟨_, rfl, Grow.of_below hb5, ?_⟩
  (refine ord_norm (fun K hK => ?_); go_simp; refine hK _ ?_; clear hK K)
  obtain ⟨g, rfl, rfl, hc0⟩ := own1 o5 HQ.out
  have hc0' : ∀ w', Grow none w5 w' → w'.cell? ⟨g, 0, none⟩ = some (.int .u64 (qq : Int)) := fun w' h => h.cell hc0 (by simp)
  repeat (refine ord_pas (by rfl) (fun K hK => ?_); go_simp; refine hK _ _ (fun w' hw' => (by go_simp)) ?_; clear hK K)
  clear hc0 hc0' o5
  (refine ord_call (by rfl) (fun K hK => ?_); go_simp; refine hK _ _ ?_; clear hK K)
  refine (words1_any (m := 1) (D4.out.below hb5) rfl (by omega) (by omega)).mono ?_
  rintro e w6 ⟨A6, n6, c6, rfl, o6, hb6⟩
  refine ⟨_, rfl, Grow.of_below hb6, ?_⟩
  (refine ord_norm (fun K hK => ?_); go_simp; refine hK _ ?_; clear hK K)
  obtain ⟨g, rfl, rfl, hc0⟩ := own1 o6 HR.out
  have hc0' : ∀ w', Grow none w6 w' → w'.cell? ⟨g, 0, none⟩ = some (.int .u64 (rr : Int)) := fun w' h => h.cell hc0 (by simp)
  repeat (refine ord_pas (by rfl) (fun K hK => ?_); go_simp; refine hK _ _ (fun w' hw' => (by go_simp)) ?_; clear hK K)
  refine ord_nil ?_
  have HB6 := Lib.hid (bt (bt HB3.out hb5) hb6)
  clear hc0 hc0' o6 hb5 hb6
  go_wp2
  go_ret3
  exact ⟨rfl, HB6.out⟩
end Go.Proofs.Ytgiecdokjmcogaa
