/-
  Walks: mul.bound, Pow, Low; surdref03.Pow, Low; MulExponents, MulPowers.
-/
import Derived.Test.YtnmfmdilhepmjaaLists
namespace Go.Proofs.Ytnmfmdilhepmjaa
open Go.RowKit
set_option linter.unusedVariables false

theorem bound_ok {z m : Int} {w : World} (h0 : 0 ≤ z) (h1 : z ≤ m) : Calls Try.prog 38 #[.int .i64 z, .int .i64 m] w (Keeps (.int .i64 0) w) := by
  have h2 : ¬ z < 0 := by omega
  have h3 : ¬ m < z := by omega
  go_enter Try.func38, Try.ntmps38
  go_wp2
  go_ret
  exact ⟨rfl, Below.refl _ _⟩
theorem bound_neg {z m : Int} {w : World} (h0 : z < 0) : Calls Try.prog 38 #[.int .i64 z, .int .i64 m] w (Keeps (.int .i64 3) w) := by
  go_enter Try.func38, Try.ntmps38
  go_wp2
  go_ret
  exact ⟨rfl, Below.refl _ _⟩
theorem bound_big {z m : Int} {w : World} (h0 : 0 ≤ z) (h1 : m < z) : Calls Try.prog 38 #[.int .i64 z, .int .i64 m] w (Keeps (.int .i64 13) w) := by
  have h2 : ¬ z < 0 := by omega
  go_enter Try.func38, Try.ntmps38
  go_wp2
  go_ret
  exact ⟨rfl, Below.refl _ _⟩

theorem pow_lt {x L : Nat} (h : x < W ^ L) (a : Nat) : x ^ a < W ^ (L * a + 1) := by
  have h1 : x ^ a ≤ (W ^ L) ^ a := Nat.pow_le_pow_left (Nat.le_of_lt h) a
  rw [← Nat.pow_mul] at h1
  exact Nat.lt_of_le_of_lt h1 (Nat.pow_lt_pow_right W_gt (by omega))
/-- what is left of the exponent -/
def PowI (N m a b : Nat) : Prop := a + b * m = N ∧ (m = 0 ∨ b ≤ N) ∧ a ≤ N
theorem PowI.start (N : Nat) : PowI N N 0 1 := ⟨by omega, by omega, by omega⟩
theorem PowI.odd1 {N m a b : Nat} (h : PowI N m a b) (h1 : m % 2 = 1) : PowI N (m / 2) (a + b) (b + b) ∨ m = 1 := by
  obtain ⟨h2, h3, h4⟩ := h
  by_cases hm : m = 1
  · exact .inr hm
  · left
    obtain ⟨k, rfl⟩ : ∃ k, m = 2 * k + 1 := ⟨m / 2, by omega⟩
    have hk : 1 ≤ k := by omega
    have e : (2 * k + 1) / 2 = k := by omega
    have e2 : b * (2 * k + 1) = b * k + b * k + b := by rw [Nat.mul_add, Nat.mul_comm 2 k, ← Nat.mul_assoc]; omega
    have e3 : b * 1 ≤ b * k := Nat.mul_le_mul_left b hk
    rw [e]
    refine ⟨by rw [Nat.add_mul]; omega, by omega, by omega⟩
theorem PowI.last {N a b : Nat} (h : PowI N 1 a b) : PowI N 0 (a + b) b := by
  obtain ⟨h2, h3, h4⟩ := h
  exact ⟨by omega, by omega, by omega⟩
theorem PowI.even {N m a b : Nat} (h : PowI N m a b) (h1 : m % 2 = 0) (h0 : 0 < m) : PowI N (m / 2) a (b + b) := by
  obtain ⟨h2, h3, h4⟩ := h
  obtain ⟨k, rfl⟩ : ∃ k, m = 2 * k := ⟨m / 2, by omega⟩
  have hk : 1 ≤ k := by omega
  have e : 2 * k / 2 = k := by omega
  have e2 : b * (2 * k) = b * k + b * k := by rw [Nat.mul_comm 2 k, ← Nat.mul_assoc]; omega
  have e3 : b * 1 ≤ b * k := Nat.mul_le_mul_left b hk
  rw [e]
  exact ⟨by rw [Nat.add_mul]; omega, by omega, by omega⟩
theorem pow_len {x L N a : Nat} {xs : List Nat} (h : x < W ^ L) (ha : a ≤ N) (e : xs = dg W (x ^ a)) : xs.length ≤ L * N + 1 := by
  subst e
  have := dgl (pow_lt h a)
  have h2 : L * a ≤ L * N := Nat.mul_le_mul_left L ha
  omega

set_option maxHeartbeats 2000000 in
theorem pow_any {v : Value} {x L N : Nat} {n' : Int} {w : World} (h : Num w v x L) (hn' : n' = (N : Int)) (hN : N ≤ 10000) (hL : L ≤ 68719476736) (hLN : L * N ≤ 34359738368) :
    Calls Try.prog 17 #[v, .int .i64 n'] w (GNE w (x ^ N) (L * N + 1) 0) := by
  subst hn'
  have H := Lib.hid h
  have HX := Lib.hid h.lt
  have HLN := Lib.hid hLN
  clear h hLN
  go_enter Try.func17, Try.ntmps17
  go_wp2_with fail
  refine (bound_ok (by omega) (by omega)).mono ?_
  rintro e w1 ⟨rfl, hb1⟩
  go_wp2_with fail
  refine (one_any _).mono ?_
  rintro e w2 ⟨A_o, n_o, c_o, rfl, o_o, hb2, l_o⟩
  go_wp2_with fail
  refine (nnorm_any ((H.out.below hb1).below hb2) (by omega)).mono ?_
  rintro e w3 ⟨A_b, n_b, c_b, rfl, o_b, hb3, l_b⟩
  go_wp2
  have HO : Hid (PowI N N 0 1 ∧ Own .u64 26 w.heap.size w3 A_o n_o c_o (dg W (x ^ 0)) ∧ Own .u64 26 w.heap.size w3 A_b n_b c_b (dg W (x ^ 1)) ∧ Below w.heap.size w w3) := by
    exact ⟨PowI.start N, by rw [Nat.pow_zero]; exact ((o_o.mono hb1.size).below hb3), by rw [Nat.pow_one]; exact (o_b.mono (bt hb1 hb2).size), (bt (bt hb1 hb2) hb3)⟩
  clear o_o o_b hb1 hb2 hb3 l_o l_b
  go_loopw [1, 7, 8] (fun nv ov bv wr => ∃ (m a b : Nat) (A1 : Option Addr) (n1 c1 : Nat) (A2 : Option Addr) (n2 c2 : Nat), Hid (PowI N m a b ∧ Own .u64 26 w.heap.size wr A1 n1 c1 (dg W (x ^ a)) ∧ Own .u64 26 w.heap.size wr A2 n2 c2 (dg W (x ^ b)) ∧ Below w.heap.size w wr) ∧ m ≤ N ∧ nv = .int .i64 m ∧ ov = .slice A1 n1 c1 ∧ bv = .slice A2 n2 c2) (fun nv _ _ _ => (intOf nv).toNat)
  case atStart => exact ⟨N, 0, 1, _, _, _, _, _, _, HO, Nat.le_refl _, rfl, rfl, rfl⟩
  case round =>
    obtain ⟨m, a, b, A1, n1, c1, A2, n2, c2, hI, hm, rfl, rfl, rfl⟩ := hrel
    have la : Hid (n1 ≤ L * N + 1) := by
      show _ ≤ _
      rw [← hI.out.2.1.len]; exact pow_len HX.out hI.out.1.2.2 rfl
    by_cases h0 : 0 < m
    · have lb : Hid (n2 ≤ L * N + 1) := by
        show _ ≤ _
        rw [← hI.out.2.2.1.len]; exact pow_len HX.out (by have := hI.out.1.2.1; omega) rfl
      by_cases h1 : m % 2 = 1
      · have q1 : ((m : Int) % 2 == 1) = true := by rw [beq_iff_eq]; omega
        have H1 := Lib.hid h1
        clear h1
        by_cases hm1 : m = 1
        · subst hm1
          go_wp2_with fail
          refine (mul_any (hI.out.2.1.num la.out) (hI.out.2.2.1.num lb.out) (by have := HLN.out; omega) (by have := HLN.out; omega)).mono ?_
          rintro e w4 ⟨A3, n3, c3, rfl, ho3, hb3, hl3⟩
          go_wp2
          go_roundw
          case rel =>
            refine ⟨0, a + b, b, _, _, _, _, _, _, ⟨hI.out.1.last, ?_, hI.out.2.2.1.below hb3, bt hI.out.2.2.2 hb3⟩, by omega, rfl, rfl, rfl⟩
            rw [Nat.pow_add]
            exact ho3.mono hI.out.2.2.2.size
          case measure => simp [intOf]
        · have hm2 : 1 < m := by omega
          clear hm1
          go_wp2_with fail
          refine (mul_any (hI.out.2.1.num la.out) (hI.out.2.2.1.num lb.out) (by have := HLN.out; omega) (by have := HLN.out; omega)).mono ?_
          rintro e w4 ⟨A3, n3, c3, rfl, ho3, hb3, hl3⟩
          go_wp2_with fail
          refine (square_any ((hI.out.2.2.1.num lb.out).below hb3) (by have := HLN.out; omega)).mono ?_
          rintro e w5 ⟨A4, n4, c4, rfl, ho4, hb4, hl4⟩
          go_wp2
          go_roundw
          case rel =>
            have hp := hI.out.1.odd1 H1.out
            refine ⟨m / 2, a + b, b + b, _, _, _, _, _, _, ⟨hp.resolve_right (by omega), ?_, ?_, bt (bt hI.out.2.2.2 hb3) hb4⟩, by omega, by go_num, rfl, rfl⟩
            · rw [Nat.pow_add]
              exact (ho3.mono hI.out.2.2.2.size).below hb4
            · rw [Nat.pow_add]
              exact ho4.mono (bt hI.out.2.2.2 hb3).size
          case measure => simp [intOf]; omega
      · have q1 : ((m : Int) % 2 == 1) = false := by rw [beq_eq_false_iff_ne]; omega
        have H1 : Hid (m % 2 = 0) := by show _ = _; omega
        have hm2 : 1 < m := by omega
        clear h1
        go_wp2_with fail
        refine (square_any (hI.out.2.2.1.num lb.out) (by have := HLN.out; omega)).mono ?_
        rintro e w5 ⟨A4, n4, c4, rfl, ho4, hb4, hl4⟩
        go_wp2
        go_roundw
        case rel =>
          refine ⟨m / 2, a, b + b, _, _, _, _, _, _, ⟨hI.out.1.even H1.out h0, hI.out.2.1.below hb4, ?_, bt hI.out.2.2.2 hb4⟩, by omega, by go_num, rfl, rfl⟩
          rw [Nat.pow_add]
          exact ho4.mono hI.out.2.2.2.size
        case measure => simp [intOf]; omega
    · obtain rfl : m = 0 := by omega
      go_wp2
      go_ret2
      have ha : a = N := by have := hI.out.1.1; omega
      refine ⟨_, _, _, rfl, ?_, hI.out.2.2.2, la.out⟩
      rw [← ha]
      exact hI.out.2.1
end Go.Proofs.Ytnmfmdilhepmjaa
