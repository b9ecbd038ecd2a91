/-
  The reference of layer 1: surdref01.two, Shl, Shr.
-/
import Derived.Test.YtfpogghlcodncaaDoorShX
namespace Go.Proofs.YtfpogghlcodncaaDoor
open Go.RowKit
set_option linter.unusedVariables false

set_option maxHeartbeats 400000 in
theorem two1_any {r : Nat} {r' : Int} {w : World} (er : r' = (r : Int)) (hr : r < 64) : Calls Tryd.prog 48 #[.int .i64 r'] w (fun e w' => e = .returned (.int .u64 ((2 ^ r : Nat) : Int)) ∧ w = w') := by
  subst er
  obtain ⟨p, hp⟩ : ∃ p, p = 2 ^ r := ⟨_, rfl⟩
  have HP := Lib.hid hp
  rw [← hp]
  clear hp
  go_enter Tryd.func48, Tryd.ntmps48
  go_wp2
  go_loop [3, 4] (fun v i => ∃ k x : Nat, Hid (x = 2 ^ k) ∧ k ≤ r ∧ v = .int .u64 x ∧ i = .int .i64 k) (fun _ i => r - (intOf i).toNat)
  case atStart => exact ⟨0, 1, rfl, by omega, rfl, rfl⟩
  case round =>
    obtain ⟨k, x, hI, hk, rfl, rfl⟩ := hrel
    by_cases hlt : k < r
    · have hx : x < 9223372036854775808 := by
        rw [hI.out]
        have : 2 ^ k ≤ 2 ^ 62 := Nat.pow_le_pow_right (by omega) (by omega)
        omega
      have s1 := lay (show IntKind.u64.wrap ((x : Int) * 2) = ((x * 2 : Nat) : Int) by rw [IntKind.wrap_u64]; omega)
      go_wp2
      go_round
      case rel => exact ⟨k + 1, x * 2, by show _ = _; rw [hI.out, Nat.pow_succ], by omega, by go_num, by go_num⟩
      case measure => simp [intOf]; omega
    · obtain rfl : k = r := by omega
      go_wp2
      go_ret
      rw [HP.out, hI.out]
      exact ⟨rfl, rfl⟩

set_option maxHeartbeats 400000 in
theorem rshl1_bad {v : Value} {z : Int} {w : World} (hz : z < 0 ∨ 1048576 < z) : Calls Tryd.prog 17 #[v, .int .i64 z] w (Gives2 .u64 22 w [] (.int .i64 3)) := by
  rcases hz with hz | hz
  · have d1 : decide (z < 0) = true := by simpa using hz
    go_enter Tryd.func17, Tryd.ntmps17
    go_wp2
    go_ret2
    exact ⟨_, _, _, rfl, Own.nil, Below.refl _ _⟩
  · have d1 : decide (z < 0) = false := by simp; omega
    have d2 : decide (1048576 < z) = true := by simpa using hz
    go_enter Tryd.func17, Tryd.ntmps17
    go_wp2
    go_ret2
    exact ⟨_, _, _, rfl, Own.nil, Below.refl _ _⟩

set_option maxHeartbeats 4000000 in
set_option maxRecDepth 100000 in
theorem rshl1_any {A : Option Addr} {n c s : Nat} {s' : Int} {xs : List Nat} {w : World} (h : Rd .u64 w A n c xs) (hx : All W xs) (es : s' = (s : Int)) (hs : s ≤ 1048576) (hn : n ≤ 4294967296) :
    Calls Tryd.prog 17 #[.slice A n c, .int .i64 s'] w (Gives2 .u64 22 w (wds W (shlLen n s) (val W xs * 2 ^ s)) (.int .i64 0)) := by
  subst es
  have H := Lib.hid h
  have HX := Lib.hid hx
  have d1 : decide ((s : Int) < 0) = false := by simp
  have d2 : decide (1048576 < (s : Int)) = false := by simp; omega
  have hrl : s % 64 < 64 := by omega
  have q1 := lay (show (s : Int) / 64 = ((s / 64 : Nat) : Int) by omega)
  have q2 := lay (show (s : Int) % 64 = ((s % 64 : Nat) : Int) by omega)
  have q3 := lay (show (s : Int).tmod 64 = ((s % 64 : Nat) : Int) by rw [Int.tmod_eq_emod_of_nonneg (by omega)]; omega)
  have hws : s / 64 ≤ 16384 := by omega
  have HV := Lib.hid (two_split s)
  have HS : Hid (shlLen n s = n + s / 64 + (if 0 < s % 64 then 1 else 0)) := rfl
  generalize shlLen n s = K at *
  generalize 2 ^ s = S2 at *
  generalize s / 64 = ws at *
  generalize s % 64 = r at *
  obtain ⟨p, hp⟩ : ∃ p, p = 2 ^ r := ⟨_, rfl⟩
  have HP := Lib.hid hp
  have hpW : Hid (p < W) := by
    show _ < _
    rw [hp]
    exact Nat.pow_lt_pow_right (by omega) hrl
  have CT := Lib.hid fun (w : World) => two1_any (w := w) (r := r) rfl hrl
  rw [← hp] at CT
  have hi4 : Hid (4 * (ws : Int) = ((4 * ws : Nat) : Int)) := by show _ = _; omega
  have s0 := lay (show IntKind.i64.wrap (ws : Int) = (ws : Int) from IntWalk.i64_in _ (by omega))
  have s2 := lay (show IntKind.i64.wrap (r : Int) = (r : Int) from IntWalk.i64_in _ (by omega))
  have s1 := lay (show IntKind.i64.wrap (4 * (ws : Int)) = 4 * (ws : Int) from IntWalk.i64_in _ (by omega))
  clear h hx hp
  go_enter Tryd.func17, Tryd.ntmps17
  go_wp2_with fail
  refine wp_region_flt [(0, 0), (0, 1), (0, 2), (0, 4), (0, 6), (0, 7), (2, 3), (1, 5), (1, 8), (2, 9), (4, 9), (1, 10), (1, 11), (4, 3), (1, 12), (0, 13)] (by kernel_rfl) (by kernel_rfl) ?_
  repeat (refine flt_pas (by rfl) (fun K hK => ?_); go_simp; refine hK _ _ (fun w' hw' => (by first | (go_simp; done) | (go_simp; intro hh; cases hh))) ?_; clear hK K)
  refine flt_make ((World.drew w).heap.size) (.tmp 16) (.tmp 16) (by rfl) rfl rfl elI rfl rfl hi4.out hi4.out (by omega) (Nat.le_refl _) ?_
  refine flt_call (by rfl) (fun w1 hw1 K hK => ?_); go_simp; refine hK _ _ ?_; clear hK K
  refine (digits1_num ((H.out.below (Below.refl _ _).drew).below hw1.below) HX.out (by omega)).mono ?_
  rintro e w2 ⟨A_a, n_a, c_a, xs_a, rfl, o_a, a_a, v_a, hb2, l_a⟩
  have V_a := Lib.hid v_a
  clear v_a
  refine ⟨_, rfl, Grow.of_below hb2, ?_⟩
  (refine flt_norm (fun K hK => ?_); go_simp; refine hK _ ?_; clear hK K)
  refine flt_call (by rfl) (fun w3 hw3 K hK => ?_); go_simp; refine hK _ _ ?_; clear hK K
  refine (CT.out _).mono ?_
  rintro e w' ⟨rfl, rfl⟩
  refine ⟨_, rfl, Grow.refl _ _, ?_⟩
  (refine flt_norm (fun K hK => ?_); go_simp; refine hK _ ?_; clear hK K)
  refine flt_lit (k := .u64) (t := 22) (n := 1) (w3.heap.size) [p] (by rfl) rfl (fun w1 => (by go_simp)) rfl (by omega) (Nat.le_refl _) ?_
  refine flt_land (by rfl) (fun v_li w5 hw5 hF => ?_)
  obtain ⟨A_li, rfl, o_li⟩ := hF
  (refine flt_norm (fun K hK => ?_); go_simp; refine hK _ ?_; clear hK K)
  refine flt_call (by rfl) (fun w6 hw6 K hK => ?_); go_simp; refine hK _ _ ?_; clear hK K
  refine (digits1_num (o_li.rd.below hw6.below) (All.cons hpW.out All.nil) (by omega)).mono ?_
  rintro e w7 ⟨A_b, n_b, c_b, xs_b, rfl, o_b, a_b, v_b, hb7, l_b⟩
  have V_b := Lib.hid v_b
  clear v_b
  refine ⟨_, rfl, Grow.of_below hb7, ?_⟩
  (refine flt_norm (fun K hK => ?_); go_simp; refine hK _ ?_; clear hK K)
  refine flt_call (by rfl) (fun w8 hw8 K hK => ?_); go_simp; refine hK _ _ ?_; clear hK K
  refine (times1_any ((((((o_a.dig a_a V_a.out l_a).below hw3.below).below hw5.below).below hw6.below).below hb7).below hw8.below) ((o_b.dig a_b V_b.out l_b).below hw8.below) (by omega) (by omega)).mono ?_
  rintro e w9 ⟨A_t, n_t, c_t, xs_t, rfl, o_t, a_t, v_t, hb9, l_t⟩
  have V_t := Lib.hid v_t
  clear v_t
  refine ⟨_, rfl, Grow.of_below hb9, ?_⟩
  (refine flt_norm (fun K hK => ?_); go_simp; refine hK _ ?_; clear hK K)
  refine flt_land (by rfl) (fun v_mk w10 hw10 hF => ?_)
  obtain ⟨A_mk, rfl, o_mk⟩ := hF
  (refine flt_norm (fun K hK => ?_); go_simp; refine hK _ ?_; clear hK K)
  refine flt_app (B := w.heap.size) (.tmp 17) (.tmp 25) (by rfl) rfl rfl elI rfl rfl (o_mk.mono (below_drewN _ 1).size) (o_t.rd.below hw10.below) (by omega) (bt (bt (bt (bt (bt (bt (bt (bt (bt (Below.refl _ _).drew hw1.below) hb2) hw3.below) hw5.below) hw6.below) hb7) hw8.below) hb9) hw10.below).size (fun A_ap c_ap w11 w12 hw11 o_ap hw12 => ?_)
  (refine flt_norm (fun K hK => ?_); go_simp; refine hK _ ?_; clear hK K)
  repeat (refine flt_pas (by rfl) (fun K hK => ?_); go_simp; refine hK _ _ (fun w' hw' => (by first | (go_simp; done) | (go_simp; intro hh; cases hh))) ?_; clear hK K)
  refine flt_nil ?_
  have HB := Lib.hid (bt (bt (bt (bt (bt (bt (bt (bt (bt (bt (bt (Below.refl _ _).drew hw1.below) hb2) hw3.below) hw5.below) hw6.below) hb7) hw8.below) hb9) hw10.below) hw11.below) hw12.below)
  have QD : Hid (Dgs w12 (.slice A_ap (4 * ws + n_t) c_ap) (val W xs * S2) (4 * ws + (4 * n + 4))) := by
    show Dgs _ _ _ _
    refine o_ap.dig ((All.replicate D_pos).append a_t) ?_ (by omega)
    rw [val_append, val_replicate, List.length_replicate, V_t.out, HV.out, ← HP.out, ← WD_pow]
    simp only [val, Nat.mul_zero, Nat.add_zero, Nat.zero_add]
    rw [Nat.mul_comm (W ^ ws), Nat.mul_assoc]
  clear o_ap o_mk o_t o_b o_a o_li V_a V_b V_t a_a a_b a_t hb2 hb7 hb9 hw1 hw3 hw5 hw6 hw8 hw10 hw11 hw12 CT
  have hk1 := lay (show IntKind.i64.wrap ((n : Int) + (ws : Int)) = (n : Int) + (ws : Int) from IntWalk.i64_in _ (by omega))
  by_cases hr0 : 0 < r
  · have g0 : decide (0 < r) = true := by simpa using hr0
    have HK : Hid (K = n + ws + 1) := by show _ = _; rw [HS.out, if_pos hr0]
    clear HS hr0
    go_wp2_with fail
    refine (words1_any (m := K) QD.out (by have := HK.out; omega) (by omega) (by have := HK.out; omega)).mono ?_
    rintro e w20 ⟨A20, n20, c20, rfl, o20, hb20⟩
    go_wp2
    go_ret2
    exact ⟨_, _, _, rfl, o20.mono HB.out.size, bt HB.out hb20⟩
  · have g0 : decide (0 < r) = false := by simpa using hr0
    have HK : Hid (K = n + ws) := by show _ = _; rw [HS.out, if_neg hr0]; rfl
    clear HS hr0
    go_wp2_with fail
    refine (words1_any (m := K) QD.out (by have := HK.out; omega) (by omega) (by have := HK.out; omega)).mono ?_
    rintro e w20 ⟨A20, n20, c20, rfl, o20, hb20⟩
    go_wp2
    go_ret2
    exact ⟨_, _, _, rfl, o20.mono HB.out.size, bt HB.out hb20⟩

theorem nat_gt {a : Nat} : decide (0 < (a : Int)) = decide (a ≠ 0) := by
  rw [decide_eq_decide]; omega
theorem lost2 {xs : List Nat} (h : All W xs) (s : Nat) : val W xs % 2 ^ s = val W (xs.take (s / 64)) + W ^ (s / 64) * (val W (xs.drop (s / 64)) % 2 ^ (s % 64)) := by
  rw [lost_eq h s]
  have e2 : val W (xs.drop (s / 64)) % 2 ^ (s % 64) = nth xs (s / 64) % 2 ^ (s % 64) := by
    rw [val_nth]
    have : W = 2 ^ (s % 64) * 2 ^ (64 - s % 64) := W_two (by omega)
    rw [this, Nat.mul_assoc, Nat.add_mul_mod_self_left]
  rw [e2]

set_option maxHeartbeats 400000 in
theorem rshr1_neg {v : Value} {z : Int} {w : World} (hz : z < 0) : Calls Tryd.prog 18 #[v, .int .i64 z] w (Gives3 .u64 22 w [] (.bool false) (.int .i64 3)) := by
  have d1 : decide (z < 0) = true := by simpa using hz
  go_enter Tryd.func18, Tryd.ntmps18
  go_wp2
  go_ret3
  exact ⟨_, _, _, rfl, Own.nil, Below.refl _ _⟩

set_option maxHeartbeats 4000000 in
set_option maxRecDepth 100000 in
theorem rshr1_any {A : Option Addr} {n c s : Nat} {s' : Int} {xs : List Nat} {w : World} (h : Rd .u64 w A n c xs) (hx : All W xs) (es : s' = (s : Int)) (hs : s ≤ 9223372036854775807) (hn : n ≤ 4294967296) :
    Calls Tryd.prog 18 #[.slice A n c, .int .i64 s'] w (Gives3 .u64 22 w (wds W (n - s / 64) (val W xs / 2 ^ s)) (.bool (decide (val W xs % 2 ^ s ≠ 0))) (.int .i64 0)) := by
  subst es
  have H := Lib.hid h
  have HX := Lib.hid hx
  have d1 : decide ((s : Int) < 0) = false := by simp
  have hrl : s % 64 < 64 := by omega
  have q1 := lay (show (s : Int) / 64 = ((s / 64 : Nat) : Int) by omega)
  have q2 := lay (show (s : Int) % 64 = ((s % 64 : Nat) : Int) by omega)
  have hwB : s / 64 ≤ 144115188075855871 := by omega
  have HL := Lib.hid (lost2 hx s)
  have HQ : Hid (val W xs / 2 ^ s = val W (xs.drop (s / 64)) / 2 ^ (s % 64)) := by
    show _ = _
    rw [two_split s, val_drop_div hx, Nat.div_div_eq_div_mul, Nat.mul_comm]
  generalize val W xs / 2 ^ s = Q at *
  generalize val W xs % 2 ^ s = L at *
  generalize s / 64 = ws at *
  generalize s % 64 = r at *
  obtain ⟨bo, hbo⟩ : ∃ bo, bo = decide (L ≠ 0) := ⟨_, rfl⟩
  rw [← hbo]
  have HBD := Lib.hid hbo
  clear hbo
  obtain ⟨p, hp⟩ : ∃ p, p = 2 ^ r := ⟨_, rfl⟩
  have HP := Lib.hid hp
  have hpW : Hid (p < W) := by
    show _ < _
    rw [hp]
    exact Nat.pow_lt_pow_right (by omega) hrl
  have hp0 : Hid (0 < p) := by show _ < _; rw [hp]; exact two_pos r
  have CT := Lib.hid fun (w : World) => two1_any (w := w) (r := r) rfl hrl
  rw [← hp] at CT
  have HQP : Hid (Q = val W (xs.drop ws) / p) := by show _ = _; rw [hp]; exact HQ.out
  clear h hx hp HQ
  go_enter Tryd.func18, Tryd.ntmps18
  go_wp2
  go_loop [8, 9] (fun bv iv => ∃ (i : Nat) (b : Bool), Hid (b = decide (val W (xs.take i) ≠ 0)) ∧ i ≤ min n ws ∧ bv = .bool b ∧ iv = .int .i64 i) (fun _ iv => n - (intOf iv).toNat)
  case atStart => exact ⟨0, false, by show _ = _; simp [val], by omega, rfl, rfl⟩
  case round =>
    obtain ⟨i, b, hI, hi, rfl, rfl⟩ := hrel
    by_cases hlt : i < n
    · by_cases hlt2 : i < ws
      · obtain ⟨bk, off, e, hb, hca⟩ := H.out.at hlt
        subst e
        have hsum := val_take_succ' (b := W) xs i
        have hp := Nat.pow_pos (n := i) W_pos
        cases b with
        | true =>
          have HN : Hid (true = decide (val W (xs.take (i + 1)) ≠ 0)) := by
            show _ = _
            have h0 := hI.out
            symm
            rw [decide_eq_true_eq]
            have : val W (xs.take i) ≠ 0 := of_decide_eq_true h0.symm
            omega
          clear hsum hp
          go_wp2
          go_round
          case rel => exact ⟨i + 1, true, HN.out, by omega, rfl, by go_num⟩
          case measure => simp [intOf]; omega
        | false =>
          have h0 : val W (xs.take i) = 0 := by
            have := of_decide_eq_false hI.out.symm
            omega
          by_cases hx0 : nth xs i = 0
          · have q0 : (((nth xs i : Nat) : Int) != 0) = false := by simp [hx0]
            have HN : Hid (false = decide (val W (xs.take (i + 1)) ≠ 0)) := by
              show _ = _
              rw [hsum, h0, hx0]
              simp
            clear hsum hp h0 hx0
            go_wp2
            go_round
            case rel => exact ⟨i + 1, false, HN.out, by omega, rfl, by go_num⟩
            case measure => simp [intOf]; omega
          · have q0 : (((nth xs i : Nat) : Int) != 0) = true := by simp [hx0]
            have HN : Hid (true = decide (val W (xs.take (i + 1)) ≠ 0)) := by
              show _ = _
              have h2 : W ^ i * nth xs i ≠ 0 := Nat.mul_ne_zero (by omega) hx0
              symm
              rw [decide_eq_true_eq]
              omega
            clear hsum hp h0 hx0
            go_wp2
            go_round
            case rel => exact ⟨i + 1, true, HN.out, by omega, rfl, by go_num⟩
            case measure => simp [intOf]; omega
      · obtain rfl : i = ws := by omega
        clear hlt2
        have hc := H.out.cap
        obtain ⟨bk, off, ea, _, _⟩ := H.out.at hlt
        subst ea
        have R0 := H.out.from_ (j := i) (by omega)
        rw [if_neg (by omega)] at R0
        have R1 : Hid (Rd .u64 w (some ⟨bk, off + i, none⟩) (n - i) (c - i) (xs.drop i)) := by
          show Rd _ _ _ _ _ _
          have e := addo bk off i
          rw [← e]
          exact R0
        clear R0
        have C1 := Lib.hid (digits1_num (w := w) R1.out (HX.out.drop i) (by omega))
        go_wp2_with fail
        refine C1.out.mono ?_
        rintro e w1 ⟨A1, n1, c1, xs1, rfl, o1, a1, v1, hb1, l1⟩
        have D1 := Lib.hid (o1.dig a1 v1 l1)
        have HB1 := Lib.hid hb1
        clear o1 a1 v1 hb1
        go_wp2_with fail
        refine (CT.out w1).mono ?_
        rintro e w' ⟨rfl, rfl⟩
        go_wp2_with fail
        refine (digitsW_any (w := w1) hpW.out).mono ?_
        rintro e w2 ⟨A2, n2, c2, xs2, rfl, o2, a2, v2, hb2, l2⟩
        have D2 := Lib.hid (o2.dig a2 v2 l2)
        have CD := Lib.hid (divide1_dig (w := w2) (D1.out.below hb2) D2.out hp0.out (by omega) (by omega))
        have HB2 := Lib.hid (bt HB1.out hb2)
        clear o2 a2 v2 hb2 D1 D2 HB1
        go_wp2_with fail
        refine CD.out.mono ?_
        rintro e w4 ⟨A3, n3, c3, A4, n4, c4, xs3, xs4, rfl, o3, a3, v3, l3, o4, a4, v4, l4, hb4⟩
        rw [← HQP.out] at v3
        have D3 := Lib.hid (o3.dig a3 v3 l3)
        have D4 := Lib.hid (o4.dig a4 v4 l4)
        have HB4 := Lib.hid (bt HB2.out hb4)
        obtain ⟨Y, hY⟩ : ∃ Y, Y = val W (xs.drop i) % p := ⟨_, rfl⟩
        have HY := Lib.hid hY
        rw [← hY] at D4
        clear o3 a3 v3 o4 a4 v4 hb4 CD HB2 hY
        have hp := Lib.hid (Nat.pow_pos (n := i) W_pos)
        cases b with
        | true =>
          have HBo : Hid (bo = true) := by
            show _ = _
            have : val W (xs.take i) ≠ 0 := of_decide_eq_true hI.out.symm
            rw [HBD.out, HL.out, decide_eq_true_eq]
            omega
          clear hI
          go_wp2_with fail
          refine (words1_any (m := n - i) D3.out (by omega) (by omega) (by omega)).mono ?_
          rintro e w5 ⟨A5, n5, c5, rfl, o5, hb5⟩
          have HW5 : Hid (Own .u64 22 w.heap.size w5 A5 n5 c5 (wds W (n - i) Q) ∧ Below w.heap.size w w5) := ⟨o5.mono HB4.out.size, bt HB4.out hb5⟩
          have D5 := Lib.hid (D4.out.below hb5)
          clear o5 hb5
          go_wp2
          go_ret3
          rw [HBo.out]
          exact ⟨_, _, _, rfl, HW5.out.1, HW5.out.2⟩
        | false =>
          have HBo : Hid (bo = decide (0 < Y)) := by
            show _ = _
            have h0 : val W (xs.take i) = 0 := by
              have := of_decide_eq_false hI.out.symm
              omega
            rw [HBD.out, HL.out, h0, ← HP.out, ← HY.out, Nat.zero_add]
            rw [decide_eq_decide]
            constructor
            · intro h
              rcases Nat.eq_zero_or_pos Y with h1 | h1
              · rw [h1] at h; simp at h
              · exact h1
            · intro h
              exact Nat.mul_ne_zero (by have := hp.out; omega) (by omega)
          clear hI
          by_cases hY0 : 0 < Y
          · have ec : cmpN Y 0 = 1 := by rw [cmpN, if_neg (Nat.not_lt_zero _), if_pos hY0]
            have HBo2 : Hid (bo = true) := HBo.out.trans (by simpa using hY0)
            clear HBo hY0
            go_wp2_with fail
            refine (words1_any (m := n - i) D3.out (by omega) (by omega) (by omega)).mono ?_
            rintro e w5 ⟨A5, n5, c5, rfl, o5, hb5⟩
            have HW5 : Hid (Own .u64 22 w.heap.size w5 A5 n5 c5 (wds W (n - i) Q) ∧ Below w.heap.size w w5) := ⟨o5.mono HB4.out.size, bt HB4.out hb5⟩
            have D5 := Lib.hid (D4.out.below hb5)
            clear o5 hb5
            have C6 := Lib.hid (compare1_any (w := w5) D5.out Dgs.nil (by omega) (by omega))
            rw [ec] at C6
            go_wp2_with fail
            refine C6.out.mono ?_
            rintro e w' ⟨rfl, rfl⟩
            go_wp2
            go_ret3
            rw [HBo2.out]
            exact ⟨_, _, _, rfl, HW5.out.1, HW5.out.2⟩
          · have ec : cmpN Y 0 = 0 := by rw [cmpN, if_neg (Nat.not_lt_zero _), if_neg hY0]
            have HBo2 : Hid (bo = false) := HBo.out.trans (by simpa using hY0)
            clear HBo hY0
            go_wp2_with fail
            refine (words1_any (m := n - i) D3.out (by omega) (by omega) (by omega)).mono ?_
            rintro e w5 ⟨A5, n5, c5, rfl, o5, hb5⟩
            have HW5 : Hid (Own .u64 22 w.heap.size w5 A5 n5 c5 (wds W (n - i) Q) ∧ Below w.heap.size w w5) := ⟨o5.mono HB4.out.size, bt HB4.out hb5⟩
            have D5 := Lib.hid (D4.out.below hb5)
            clear o5 hb5
            have C6 := Lib.hid (compare1_any (w := w5) D5.out Dgs.nil (by omega) (by omega))
            rw [ec] at C6
            go_wp2_with fail
            refine C6.out.mono ?_
            rintro e w' ⟨rfl, rfl⟩
            go_wp2
            go_ret3
            rw [HBo2.out]
            exact ⟨_, _, _, rfl, HW5.out.1, HW5.out.2⟩
    · obtain rfl : i = n := by omega
      have HBo : Hid (bo = b) := by
        show _ = _
        rw [hI.out, HBD.out, HL.out, List.take_of_length_le (by rw [H.out.len]; omega), List.take_of_length_le (by rw [H.out.len]; exact Nat.le_refl _), List.drop_of_length_le (by rw [H.out.len]; omega), show val W [] = 0 from rfl, Nat.zero_mod, Nat.mul_zero, Nat.add_zero]
      have E0 : Hid (i - ws = 0) := by show _ = _; omega
      have hge : i ≤ ws := by omega
      clear hlt hI
      go_wp2
      go_ret3
      rw [HBo.out]
      exact ⟨_, _, _, rfl, Own.lit0 w (Nat.le_refl _), belowA _ _⟩
end Go.Proofs.YtfpogghlcodncaaDoor
