/-
  surdref03.Pow, Low; mul.Low; the laws MulExponents, MulPowers.
-/
import Derived.Test.YtajoafcondgelaaPowX
namespace Go.Proofs.Ytajoafcondgelaa
open Go.RowKit
set_option linter.unusedVariables false

set_option maxHeartbeats 400000 in
theorem pow_neg {v : Value} {z : Int} {w : World} (h0 : z < 0) : Calls Try.prog 26 #[v, .int .i64 z] w (GNE w 0 0 3) := by
  go_enter Try.func26, Try.ntmps26
  (go_wp2_with fail; refine (bound_neg h0).mono ?_; rintro e w1 ⟨rfl, hb1⟩)
  go_wp2
  go_ret2
  exact ⟨none, 0, 0, rfl, Own.nilx (dg_zero W_gt), hb1, Nat.le_refl _⟩
set_option maxHeartbeats 400000 in
theorem pow_big {v : Value} {z : Int} {w : World} (h0 : 10000 < z) : Calls Try.prog 26 #[v, .int .i64 z] w (GNE w 0 0 13) := by
  have h1 : ¬ z < 0 := by omega
  go_enter Try.func26, Try.ntmps26
  (go_wp2_with fail; refine (bound_big (by omega) h0).mono ?_; rintro e w1 ⟨rfl, hb1⟩)
  go_wp2
  go_ret2
  exact ⟨none, 0, 0, rfl, Own.nilx (dg_zero W_gt), hb1, Nat.le_refl _⟩
set_option maxHeartbeats 400000 in
theorem pow3_neg {v : Value} {z : Int} {w : World} (h0 : z < 0) : Calls Try.prog 19 #[v, .int .i64 z] w (GNE w 0 0 3) := by
  go_enter Try.func19, Try.ntmps19
  skip
  go_wp2
  go_ret2
  exact ⟨none, 0, 0, rfl, Own.nilx (dg_zero W_gt), (Below.refl _ _), Nat.le_refl _⟩
set_option maxHeartbeats 400000 in
theorem pow3_big {v : Value} {z : Int} {w : World} (h0 : 10000 < z) : Calls Try.prog 19 #[v, .int .i64 z] w (GNE w 0 0 13) := by
  have h1 : ¬ z < 0 := by omega
  go_enter Try.func19, Try.ntmps19
  skip
  go_wp2
  go_ret2
  exact ⟨none, 0, 0, rfl, Own.nilx (dg_zero W_gt), (Below.refl _ _), Nat.le_refl _⟩
set_option maxHeartbeats 400000 in
theorem low_neg {v u : Value} {z : Int} {w : World} (h0 : z < 0) : Calls Try.prog 27 #[v, u, .int .i64 z] w (GNE w 0 0 3) := by
  go_enter Try.func27, Try.ntmps27
  (go_wp2_with fail; refine (bound_neg h0).mono ?_; rintro e w1 ⟨rfl, hb1⟩)
  go_wp2
  go_ret2
  exact ⟨none, 0, 0, rfl, Own.nilx (dg_zero W_gt), hb1, Nat.le_refl _⟩
set_option maxHeartbeats 400000 in
theorem low_big {v u : Value} {z : Int} {w : World} (h0 : 10000 < z) : Calls Try.prog 27 #[v, u, .int .i64 z] w (GNE w 0 0 13) := by
  have h1 : ¬ z < 0 := by omega
  go_enter Try.func27, Try.ntmps27
  (go_wp2_with fail; refine (bound_big (by omega) h0).mono ?_; rintro e w1 ⟨rfl, hb1⟩)
  go_wp2
  go_ret2
  exact ⟨none, 0, 0, rfl, Own.nilx (dg_zero W_gt), hb1, Nat.le_refl _⟩
set_option maxHeartbeats 400000 in
theorem low3_neg {v u : Value} {z : Int} {w : World} (h0 : z < 0) : Calls Try.prog 20 #[v, u, .int .i64 z] w (GNE w 0 0 3) := by
  go_enter Try.func20, Try.ntmps20
  skip
  go_wp2
  go_ret2
  exact ⟨none, 0, 0, rfl, Own.nilx (dg_zero W_gt), (Below.refl _ _), Nat.le_refl _⟩
set_option maxHeartbeats 400000 in
theorem low3_big {v u : Value} {z : Int} {w : World} (h0 : 10000 < z) : Calls Try.prog 20 #[v, u, .int .i64 z] w (GNE w 0 0 13) := by
  have h1 : ¬ z < 0 := by omega
  go_enter Try.func20, Try.ntmps20
  skip
  go_wp2
  go_ret2
  exact ⟨none, 0, 0, rfl, Own.nilx (dg_zero W_gt), (Below.refl _ _), Nat.le_refl _⟩

set_option maxHeartbeats 400000 in
theorem low_any {v u : Value} {x y L M n : Nat} {n' : Int} {w : World} (h : Num w v x L) (h' : Num w u y M) (hn' : n' = (n : Int)) (hn : n ≤ 10000) (hL : L ≤ 68719476736) (hM : M ≤ 68719476736) :
    Calls Try.prog 27 #[v, u, .int .i64 n'] w (GNE w (x * y % W ^ n) n 0) := by
  subst hn'
  have H := Lib.hid h
  have H' := Lib.hid h'
  clear h h'
  go_enter Try.func27, Try.ntmps27
  go_wp2_with fail
  refine (bound_ok (by omega) (by omega)).mono ?_
  rintro e w1 ⟨rfl, hb1⟩
  go_wp2_with fail
  refine (cut_any (H.out.below hb1) rfl (by omega)).mono ?_
  rintro e w2 ⟨A_a1, n_a1, c_a1, A_a0, n_a0, c_a0, rfl, o_a1, o_a0, hb2, l_a1, l_a0⟩
  go_wp2_with fail
  refine (cut_any ((H'.out.below hb1).below hb2) rfl (by omega)).mono ?_
  rintro e w3 ⟨A_b1, n_b1, c_b1, A_b0, n_b0, c_b0, rfl, o_b1, o_b0, hb3, l_b1, l_b0⟩
  go_wp2_with fail
  refine (product_any ((o_a0.num l_a0).below hb3) (o_b0.num l_b0) (by omega) (by omega)).mono ?_
  rintro e w4 ⟨A_p, n_p, c_p, rfl, o_p, hb4, l_p⟩
  go_wp2_with fail
  refine (cut_any (o_p.num l_p) rfl (by omega)).mono ?_
  rintro e w5 ⟨A_p1, n_p1, c_p1, A_p0, n_p0, c_p0, rfl, o_p1, o_p0, hb5, l_p1, l_p0⟩
  go_wp2
  go_ret2
  rw [← Nat.mul_mod] at o_p0
  exact ⟨_, _, _, rfl, (o_p0.mono (bt (bt (bt hb1 hb2) hb3) hb4).size), (bt (bt (bt (bt hb1 hb2) hb3) hb4) hb5), by omega⟩

theorem val_takeD {b x k : Nat} (hb : 1 < b) : val b ((dg b x).take k) = x % b ^ k := by
  by_cases h : k ≤ (dg b x).length
  · have h1 := val_append (b := b) ((dg b x).take k) ((dg b x).drop k)
    rw [List.take_append_drop, List.length_take, Nat.min_eq_left h, dg_val hb] at h1
    have l := val_lt ((dg_all hb x).take k)
    rw [List.length_take, Nat.min_eq_left h] at l
    rw [show x % b ^ k = (val b ((dg b x).take k) + b ^ k * val b ((dg b x).drop k)) % b ^ k from congrArg (· % b ^ k) h1, Nat.add_mul_mod_self_left, Nat.mod_eq_of_lt l]
  · rw [List.take_of_length_le (by omega), dg_val hb, Nat.mod_eq_of_lt]
    have l := val_lt (dg_all hb x)
    rw [dg_val hb] at l
    exact Nat.lt_of_lt_of_le l (Nat.pow_le_pow_right (by omega) (by omega))

set_option maxHeartbeats 1000000 in
theorem low3_any {v u : Value} {x y L M n : Nat} {n' : Int} {w : World} (h : Num w v x L) (h' : Num w u y M) (hn' : n' = (n : Int)) (hn : n ≤ 10000) (hL : L ≤ 67108864) (hM : M ≤ 67108864) :
    Calls Try.prog 20 #[v, u, .int .i64 n'] w (GNE w (x * y % W ^ n) n 0) := by
  subst hn'
  have H := Lib.hid h
  have H' := Lib.hid h'
  have HD := Lib.hid (dgD_len (lt_mul h.lt h'.lt))
  have HB : Hid ((dg W (x * y % W ^ n)).length ≤ n) := dgl (Nat.mod_lt _ (Nat.pow_pos W_pos))
  have HV : Hid (val D ((dg D (x * y)).take (4 * n)) = x * y % W ^ n) := by
    show _ = _
    rw [val_takeD D_gt, W_D, Nat.pow_mul]
  clear h h'
  go_enter Try.func20, Try.ntmps20
  go_wp2_with fail
  refine (mul3_any H.out H'.out (by omega) (by omega)).mono ?_
  rintro e w1 ⟨A_p, n_p, c_p, rfl, o_p, hb1, l_p⟩
  go_wp2_with fail
  refine (digits3_any (o_p.num l_p) (by omega)).mono ?_
  rintro e w2 ⟨A_d, n_d, c_d, rfl, o_d, hb2⟩
  have kd : n_d ≤ 536870912 := by have := HD.out; have := o_d.len; omega
  have hcap := o_d.cap
  by_cases hlt : 4 * n < n_d
  · have i1 : (0 : Int) ≤ 4 * (n : Int) := by omega
    have i2 : 4 * (n : Int) ≤ (n_d : Int) := by omega
    have i3 : 4 * (n : Int) ≤ (c_d : Int) := by omega
    have R := Lib.hid (o_d.rd.upto (j := 4 * n) (by omega))
    have HN : Hid ((4 * (n : Int)).toNat = 4 * n) := by show _ = _; omega
    go_wp2_with fail
    refine (number3_any R.out ((dg_all62 _).take _) (by omega)).mono ?_
    rintro e w3 ⟨A3, n3, c3, rfl, ho3, hb3, hl3⟩
    go_wp2
    go_ret2
    rw [HV.out] at ho3
    exact ⟨_, _, _, rfl, ho3.mono (bt hb1 hb2).size, (bt (bt hb1 hb2) hb3), by rw [← ho3.len]; exact HB.out⟩
  · have HT : Hid ((dg D (x * y)).take (4 * n) = dg D (x * y)) := List.take_of_length_le (by rw [o_d.len]; omega)
    go_wp2_with fail
    refine (number3_any o_d.rd (dg_all62 _) (by omega)).mono ?_
    rintro e w3 ⟨A3, n3, c3, rfl, ho3, hb3, hl3⟩
    go_wp2
    go_ret2
    rw [← HT.out, HV.out] at ho3
    exact ⟨_, _, _, rfl, ho3.mono (bt hb1 hb2).size, bt (bt hb1 hb2) hb3, by rw [← ho3.len]; exact HB.out⟩

set_option maxHeartbeats 2000000 in
theorem pow3_any {v : Value} {x L N : Nat} {n' : Int} {w : World} (h : Num w v x L) (hn' : n' = (N : Int)) (hN : N ≤ 10000) (hLN : L * N ≤ 33554432) :
    Calls Try.prog 19 #[v, .int .i64 n'] w (GNE w (x ^ N) (L * N + 1) 0) := by
  subst hn'
  have H := Lib.hid h
  have HX := Lib.hid h.lt
  have HLN := Lib.hid hLN
  have h1 : ¬ (N : Int) < 0 := by omega
  have h2 : ¬ 10000 < (N : Int) := by omega
  clear h hLN
  go_enter Try.func19, Try.ntmps19
  go_wp2_with fail
  refine (of3_any (x := 1) rfl (by decide)).mono ?_
  rintro e w1 ⟨A_o, n_o, c_o, rfl, o_o, hb1, l_o⟩
  go_wp2
  have HO : Hid (PowI N N 0 1 ∧ Own .u64 30 w.heap.size w1 A_o n_o c_o (dg W (x ^ 0)) ∧ (0 < N → Num w1 v (x ^ 1) (L * N + 1)) ∧ Below w.heap.size w w1) := by
    refine ⟨PowI.start N, by rw [Nat.pow_zero]; exact o_o, fun h0 => ?_, hb1⟩
    rw [Nat.pow_one]
    refine (H.out.below hb1).mono ?_
    have : L * 1 ≤ L * N := Nat.mul_le_mul_left L h0
    omega
  clear o_o hb1 l_o
  go_loopw [0, 1, 6] (fun bv nv ov wr => ∃ (m a b : Nat) (A1 : Option Addr) (n1 c1 : Nat), Hid (PowI N m a b ∧ Own .u64 30 w.heap.size wr A1 n1 c1 (dg W (x ^ a)) ∧ (0 < m → Num wr bv (x ^ b) (L * N + 1)) ∧ Below w.heap.size w wr) ∧ m ≤ N ∧ nv = .int .i64 m ∧ ov = .slice A1 n1 c1) (fun _ nv _ _ => (intOf nv).toNat)
  case atStart => exact ⟨N, 0, 1, _, _, _, HO, Nat.le_refl _, rfl, rfl⟩
  case round =>
    obtain ⟨m, a, b, A1, n1, c1, hI, hm, rfl, rfl⟩ := hrel
    have la : Hid (n1 ≤ L * N + 1) := by
      show _ ≤ _
      rw [← hI.out.2.1.len]; exact pow_len HX.out hI.out.1.2.2 rfl
    by_cases h0 : 0 < m
    · have hbN : b ≤ N := by have := hI.out.1.2.1; omega
      have hb2 : Hid (2 ≤ m → b + b ≤ N) := fun h2 => by
        have h3 := hI.out.1.1
        have : b * 2 ≤ b * m := Nat.mul_le_mul_left b h2
        omega
      have NB := Lib.hid (hI.out.2.2.1 h0)
      by_cases h1 : m % 2 = 1
      · have q1 : ((m : Int) % 2 == 1) = true := by rw [beq_iff_eq]; omega
        have H1 := Lib.hid h1
        clear h1
        by_cases hm1 : m = 1
        · subst hm1
          go_wp2_with fail
          refine (mul3_any (hI.out.2.1.num la.out) NB.out (by have := HLN.out; omega) (by have := HLN.out; omega)).mono ?_
          rintro e w4 ⟨A3, n3, c3, rfl, ho3, hb3, hl3⟩
          go_wp2
          go_roundw
          case rel =>
            refine ⟨0, a + b, b, _, _, _, ⟨hI.out.1.last, ?_, fun h => by omega, bt hI.out.2.2.2 hb3⟩, by omega, rfl, rfl⟩
            rw [Nat.pow_add]
            exact ho3.mono hI.out.2.2.2.size
          case measure => simp [intOf]
        · have hm2 : 0 < m / 2 := by omega
          have hm3 : 0 < (m : Int) / 2 := by omega
          clear hm1
          go_wp2_with fail
          refine (mul3_any (hI.out.2.1.num la.out) NB.out (by have := HLN.out; omega) (by have := HLN.out; omega)).mono ?_
          rintro e w4 ⟨A3, n3, c3, rfl, ho3, hb3, hl3⟩
          go_wp2_with fail
          refine (mul3_any (NB.out.below hb3) (NB.out.below hb3) (by have := HLN.out; omega) (by have := HLN.out; omega)).mono ?_
          rintro e w5 ⟨A4, n4, c4, rfl, ho4, hb4, hl4⟩
          go_wp2
          go_roundw
          case rel =>
            have hp := hI.out.1.odd1 H1.out
            refine ⟨m / 2, a + b, b + b, _, _, _, ⟨hp.resolve_right (by omega), ?_, fun _ => ?_, bt (bt hI.out.2.2.2 hb3) hb4⟩, by omega, by go_num, rfl⟩
            · rw [Nat.pow_add]
              exact (ho3.mono hI.out.2.2.2.size).below hb4
            · rw [← Nat.pow_add] at ho4
              refine ho4.num ?_
              rw [← ho4.len]
              exact pow_len HX.out (hb2.out (by omega)) rfl
          case measure => simp [intOf]; omega
      · have q1 : ((m : Int) % 2 == 1) = false := by rw [beq_eq_false_iff_ne]; omega
        have H1 : Hid (m % 2 = 0) := by show _ = _; omega
        have hm2 : 0 < m / 2 := by omega
        have hm3 : 0 < (m : Int) / 2 := by omega
        clear h1
        go_wp2_with fail
        refine (mul3_any NB.out NB.out (by have := HLN.out; omega) (by have := HLN.out; omega)).mono ?_
        rintro e w5 ⟨A4, n4, c4, rfl, ho4, hb4, hl4⟩
        go_wp2
        go_roundw
        case rel =>
          refine ⟨m / 2, a, b + b, _, _, _, ⟨hI.out.1.even H1.out h0, hI.out.2.1.below hb4, fun _ => ?_, bt hI.out.2.2.2 hb4⟩, by omega, by go_num, rfl⟩
          rw [← Nat.pow_add] at ho4
          refine ho4.num ?_
          rw [← ho4.len]
          exact pow_len HX.out (hb2.out (by have := H1.out; omega)) rfl
        case measure => simp [intOf]; omega
    · obtain rfl : m = 0 := by omega
      go_wp2
      go_ret2
      have ha : a = N := by have := hI.out.1.1; omega
      refine ⟨_, _, _, rfl, ?_, hI.out.2.2.2, la.out⟩
      rw [← ha]
      exact hI.out.2.1
end Go.Proofs.Ytajoafcondgelaa
