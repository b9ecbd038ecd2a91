/-
  Walks: gcd.isZero, isOne, quo, mod, sub, Gcd, Lcm, Coprime. Multiples modulo a number, in plain Lean: what gcd.factor keeps. No program here. Walk: gcd.factor. Walk: gcd.Extended.
-/
import Derived.Test.YtamfhmmcnlollaaGreatDivQ
import Derived.Test.YtamfhmmcnlollaaGreatNatC
import Derived.Test.YtamfhmmcnlollaaGreatNum
namespace Go.Proofs.YtamfhmmcnlollaaGreat
open Go.RowKit
set_option linter.unusedVariables false

/-- the number that a slice of words reads as -/
def cellNat : Option Value → Nat
  | some (.int _ z) => z.toNat
  | _ => 0
def mval (w : World) : Value → Nat
  | .slice (some a) n _ => val W ((List.range n).map fun i => cellNat (w.cell? (a.add i)))
  | _ => 0
theorem mval_num {w : World} {v : Value} {x L : Nat} (h : Num w v x L) : mval w v = x := by
  obtain ⟨A, n, c, xs, rfl, h1, h2, rfl, h4⟩ := h
  rcases A with _ | a
  · have hn : n = 0 := by
      rcases Nat.eq_zero_or_pos n with h0 | h0
      · exact h0
      · obtain ⟨b, off, e, _⟩ := h1.2 h0
        cases e
    have := h1.len
    rw [hn] at this
    rw [List.eq_nil_of_length_eq_zero this]
    rfl
  · have : (List.range n).map (fun i => cellNat (w.cell? (a.add i))) = xs := by
      refine List.ext_getElem (by simp [h1.len]) fun i hi hi' => ?_
      have hin : i < n := by simpa using hi
      obtain ⟨b, off, e, _, hc⟩ := h1.at hin
      injection e with e
      subst e
      simp only [List.getElem_map, List.getElem_range, addo, hc, cellNat]
      rw [nth_lt hi']
      simp
    simp only [mval, this]
theorem nb_zero : nb 0 = 0 := by simp [nb]
theorem nb_pos {x : Nat} (h : 0 < x) : 0 < nb x := by rw [nb, if_neg (by omega)]; omega
theorem nb_one : nb 1 = 1 := nb_uniq (x := 1) (k := 0) (by simp) (by simp)
theorem nb_two {x : Nat} (h : 2 ≤ x) : 2 ≤ nb x := by
  rw [nb, if_neg (by omega)]
  have : 1 ≤ x.log2 := (Nat.le_log2 (by omega)).2 (by omega)
  omega
theorem isZero_yes {v : Value} {x L : Nat} {w : World} (h : Num w v x L) (hx : x = 0) (hL : L ≤ 17179869184) : Calls Tryz.prog 76 #[v] w (Keeps (.bool true) w) := by
  have C := Lib.hid (nbits_any (w := w) h hL)
  obtain ⟨_, _, _, _, rfl, _⟩ := id h
  have q : ((nb x : Int) == 0) = true := by rw [hx, nb_zero]; rfl
  generalize nb x = z at *
  clear h hx
  go_enter Tryz.func76, Tryz.ntmps76
  go_wp2_with fail
  refine C.out.mono ?_
  rintro e w' ⟨rfl, rfl⟩
  go_wp2
  go_ret
  exact ⟨rfl, Below.refl _ _⟩
theorem isZero_no {v : Value} {x L : Nat} {w : World} (h : Num w v x L) (hx : 0 < x) (hL : L ≤ 17179869184) : Calls Tryz.prog 76 #[v] w (Keeps (.bool false) w) := by
  have C := Lib.hid (nbits_any (w := w) h hL)
  obtain ⟨_, _, _, _, rfl, _⟩ := id h
  have q : ((nb x : Int) == 0) = false := by rw [beq_eq_false_iff_ne]; have := nb_pos hx; omega
  generalize nb x = z at *
  clear h hx
  go_enter Tryz.func76, Tryz.ntmps76
  go_wp2_with fail
  refine C.out.mono ?_
  rintro e w' ⟨rfl, rfl⟩
  go_wp2
  go_ret
  exact ⟨rfl, Below.refl _ _⟩
theorem isOne_yes {v : Value} {x L : Nat} {w : World} (h : Num w v x L) (hx : x = 1) (hL : L ≤ 17179869184) : Calls Tryz.prog 88 #[v] w (Keeps (.bool true) w) := by
  have C := Lib.hid (nbits_any (w := w) h hL)
  obtain ⟨_, _, _, _, rfl, _⟩ := id h
  have q : ((nb x : Int) == 1) = true := by rw [hx, nb_one]; rfl
  generalize nb x = z at *
  clear h hx
  go_enter Tryz.func88, Tryz.ntmps88
  go_wp2_with fail
  refine C.out.mono ?_
  rintro e w' ⟨rfl, rfl⟩
  go_wp2
  go_ret
  exact ⟨rfl, Below.refl _ _⟩
theorem isOne_zero {v : Value} {x L : Nat} {w : World} (h : Num w v x L) (hx : x = 0) (hL : L ≤ 17179869184) : Calls Tryz.prog 88 #[v] w (Keeps (.bool false) w) := by
  have C := Lib.hid (nbits_any (w := w) h hL)
  obtain ⟨_, _, _, _, rfl, _⟩ := id h
  have q : ((nb x : Int) == 1) = false := by rw [hx, nb_zero]; rfl
  generalize nb x = z at *
  clear h hx
  go_enter Tryz.func88, Tryz.ntmps88
  go_wp2_with fail
  refine C.out.mono ?_
  rintro e w' ⟨rfl, rfl⟩
  go_wp2
  go_ret
  exact ⟨rfl, Below.refl _ _⟩
theorem isOne_two {v : Value} {x L : Nat} {w : World} (h : Num w v x L) (hx : 2 ≤ x) (hL : L ≤ 17179869184) : Calls Tryz.prog 88 #[v] w (Keeps (.bool false) w) := by
  have C := Lib.hid (nbits_any (w := w) h hL)
  obtain ⟨_, _, _, _, rfl, _⟩ := id h
  have q : ((nb x : Int) == 1) = false := by rw [beq_eq_false_iff_ne]; have := nb_two hx; omega
  generalize nb x = z at *
  clear h hx
  go_enter Tryz.func88, Tryz.ntmps88
  go_wp2_with fail
  refine C.out.mono ?_
  rintro e w' ⟨rfl, rfl⟩
  go_wp2
  go_ret
  exact ⟨rfl, Below.refl _ _⟩
theorem isOne_any {v : Value} {x L : Nat} {w : World} (h : Num w v x L) (hL : L ≤ 17179869184) : Calls Tryz.prog 88 #[v] w (Keeps (.bool (decide (x = 1))) w) := by
  rcases (show x = 0 ∨ x = 1 ∨ 2 ≤ x by omega) with h0 | h0 | h0
  · rw [decide_eq_false (by omega)]; exact isOne_zero h h0 hL
  · rw [decide_eq_true h0]; exact isOne_yes h h0 hL
  · rw [decide_eq_false (by omega)]; exact isOne_two h h0 hL
theorem gmod_any {v u : Value} {x y L K : Nat} {w : World} (h : Num w v x L) (h' : Num w u y K) (hy0 : 0 < y) (hL : L ≤ 2147483648) (hK : K ≤ 2147483648) : Calls Tryz.prog 87 #[v, u] w (GN w (x % y) K) := by
  have C := Lib.hid (mod_any (w := w) h h' hy0 hL hK)
  obtain ⟨_, _, _, _, rfl, _⟩ := id h
  obtain ⟨_, _, _, _, rfl, _⟩ := id h'
  clear h h'
  go_enter Tryz.func87, Tryz.ntmps87
  go_wp2_with fail
  refine (C.out).mono ?_
  rintro e w1 ⟨A_r, n_r, c_r, rfl, o_r, hb1, l_r⟩
  go_wp2
  go_ret
  exact ⟨_, _, _, rfl, o_r, hb1, by omega⟩
theorem gquo_any {v u : Value} {x y L K : Nat} {w : World} (h : Num w v x L) (h' : Num w u y K) (hy0 : 0 < y) (hL : L ≤ 2147483648) (hK : K ≤ 2147483648) : Calls Tryz.prog 82 #[v, u] w (GN w (x / y) L) := by
  have C := Lib.hid (quo_any (w := w) h h' hy0 hL hK)
  obtain ⟨_, _, _, _, rfl, _⟩ := id h
  obtain ⟨_, _, _, _, rfl, _⟩ := id h'
  clear h h'
  go_enter Tryz.func82, Tryz.ntmps82
  go_wp2_with fail
  refine (C.out).mono ?_
  rintro e w1 ⟨A_q, n_q, c_q, A_r, n_r, c_r, rfl, o_q, o_r, hb1, l_q, l_r⟩
  go_wp2
  go_ret
  exact ⟨_, _, _, rfl, o_q, hb1, by omega⟩
theorem gsub_any {v u : Value} {x y L K : Nat} {w : World} (h : Num w v x L) (h' : Num w u y K) (hle : y ≤ x) (hL : L ≤ 1099511627776) (hK : K ≤ 1099511627776) : Calls Tryz.prog 85 #[v, u] w (GN w (x - y) L) := by
  have C := Lib.hid (nsubE_any (w := w) h h' hL hK hle)
  obtain ⟨_, _, _, _, rfl, _⟩ := id h
  obtain ⟨_, _, _, _, rfl, _⟩ := id h'
  clear h h'
  go_enter Tryz.func85, Tryz.ntmps85
  go_wp2_with fail
  refine (C.out).mono ?_
  rintro e w1 ⟨A_r, n_r, c_r, rfl, o_r, hb1, l_r⟩
  go_wp2
  go_ret
  exact ⟨_, _, _, rfl, o_r, hb1, by omega⟩

set_option maxHeartbeats 1000000 in
theorem gcd_any {v u : Value} {x y L K : Nat} {w : World} (h : Num w v x L) (h' : Num w u y K) (hL : L ≤ 1073741824) (hK : K ≤ 1073741824) : Calls Tryz.prog 37 #[v, u] w (GN w (Nat.gcd x y) (L + K)) := by
  have H := Lib.hid h
  have H' := Lib.hid h'
  obtain ⟨_, _, _, _, rfl, _⟩ := id h
  obtain ⟨_, _, _, _, rfl, _⟩ := id h'
  clear h h'
  go_enter Tryz.func37, Tryz.ntmps37
  go_wp2_with fail
  refine (nnorm_any H.out (by omega)).mono ?_
  rintro e w1 ⟨A_p, n_p, c_p, rfl, o_p, hb1, l_p⟩
  go_wp2_with fail
  refine (nnorm_any (H'.out.below hb1) (by omega)).mono ?_
  rintro e w2 ⟨A_q, n_q, c_q, rfl, o_q, hb2, l_q⟩
  have HS := Lib.hid (And.intro (o_p.below hb2) (And.intro (o_q.mono hb1.size) (bt hb1 hb2)))
  clear o_p o_q
  go_wp2_with fail
  go_loopw [0, 1] (fun av bv wr => ∃ (A1 A2 : Option Addr) (n1 c1 n2 c2 s t : Nat), Hid (Own .u64 41 w.heap.size wr A1 n1 c1 (dg W s) ∧ Own .u64 41 w.heap.size wr A2 n2 c2 (dg W t) ∧ Below w.heap.size w wr) ∧ Hid (Nat.gcd s t = Nat.gcd x y) ∧ n1 ≤ L + K ∧ n2 ≤ L + K ∧ av = .slice A1 n1 c1 ∧ bv = .slice A2 n2 c2) (fun av bv wr => mval wr bv)
  case atStart => exact ⟨_, _, _, _, _, _, _, _, HS, rfl, by omega, by omega, rfl, rfl⟩
  case round =>
    obtain ⟨A1, A2, n1, c1, n2, c2, s, t, hI, hG, ln1, ln2, rfl, rfl⟩ := hrel
    rcases Nat.eq_zero_or_pos t with ht | ht
    · obtain rfl := len_zero hI.out.2.1 ht
      go_wp2
      go_ret
      have e : s = Nat.gcd x y := by rw [← hG.out, ht, Nat.gcd_zero_right]
      rw [← e]
      exact ⟨_, _, _, rfl, hI.out.1, hI.out.2.2, ln1⟩
    · have hp := len_pos hI.out.2.1 ht
      have N1 := Lib.hid (hI.out.1.num (L := L + K) ln1)
      have N2 := Lib.hid (hI.out.2.1.num (L := L + K) ln2)
      have HT := Lib.hid ht
      clear ht
      go_wp2_with fail
      refine (gmod_any N1.out N2.out HT.out (by omega) (by omega)).mono ?_
      rintro e w3 ⟨A3, n3, c3, rfl, ho3, hb3, hl3⟩
      have N3 : Hid (mval w3 (.slice A3 n3 c3) < mval wr (.slice A2 n2 c2)) := by
        show _ < _
        rw [mval_num (ho3.num hl3), mval_num N2.out]
        exact Nat.mod_lt _ HT.out
      go_wp2
      go_roundw
      case rel =>
        refine ⟨A2, A3, n2, c2, n3, c3, t, s % t, ⟨hI.out.2.1.below hb3, ho3.mono hI.out.2.2.size, bt hI.out.2.2 hb3⟩, ?_, ln2, hl3, rfl, rfl⟩
        show _ = _
        rw [← hG.out, Nat.gcd_comm t, ← Nat.gcd_rec, Nat.gcd_comm]
      case measure => exact N3.out
theorem coprime_any {v u : Value} {x y L K : Nat} {w : World} (h : Num w v x L) (h' : Num w u y K) (hL : L ≤ 1073741824) (hK : K ≤ 1073741824) : Calls Tryz.prog 38 #[v, u] w (Keeps (.bool (decide (Nat.gcd x y = 1))) w) := by
  have C := Lib.hid (gcd_any (w := w) h h' hL hK)
  obtain ⟨_, _, _, _, rfl, _⟩ := id h
  obtain ⟨_, _, _, _, rfl, _⟩ := id h'
  clear h h'
  go_enter Tryz.func38, Tryz.ntmps38
  go_wp2_with fail
  refine (C.out).mono ?_
  rintro e w1 ⟨A_g, n_g, c_g, rfl, o_g, hb1, l_g⟩
  go_wp2_with fail
  refine (isOne_any (o_g.num l_g) (by omega)).mono ?_
  rintro e w2 ⟨rfl, hb2⟩
  go_wp2
  go_ret
  exact ⟨rfl, (bt hb1 hb2)⟩
theorem lcm_zero {v u : Value} {x y L K : Nat} {w : World} (h : Num w v x L) (h' : Num w u y K) (hz : x = 0 ∨ y = 0) (hL : L ≤ 1073741824) (hK : K ≤ 1073741824) : Calls Tryz.prog 57 #[v, u] w (GN w 0 0) := by
  have H := Lib.hid h
  have H' := Lib.hid h'
  obtain ⟨_, _, _, _, rfl, _⟩ := id h
  obtain ⟨_, _, _, _, rfl, _⟩ := id h'
  clear h h'
  rcases Nat.eq_zero_or_pos x with hx | hx
  · have HX := Lib.hid hx
    clear hx hz
    go_enter Tryz.func57, Tryz.ntmps57
    go_wp2_with fail
    refine (isZero_yes H.out HX.out (by omega)).mono ?_
    rintro e w1 ⟨rfl, hb1⟩
    go_wp2
    go_ret
    exact ⟨_, _, _, rfl, Own.nildg, hb1, Nat.le_refl _⟩
  · have hy : y = 0 := by omega
    have HX := Lib.hid hx
    have HY := Lib.hid hy
    clear hx hz hy
    go_enter Tryz.func57, Tryz.ntmps57
    go_wp2_with fail
    refine (isZero_no H.out HX.out (by omega)).mono ?_
    rintro e w2 ⟨rfl, hb2⟩
    go_wp2_with fail
    refine (isZero_yes (H'.out.below hb2) HY.out (by omega)).mono ?_
    rintro e w3 ⟨rfl, hb3⟩
    go_wp2
    go_ret
    exact ⟨_, _, _, rfl, Own.nildg, (bt hb2 hb3), Nat.le_refl _⟩
theorem lcm_pos {v u : Value} {x y L K : Nat} {w : World} (h : Num w v x L) (h' : Num w u y K) (hx : 0 < x) (hy : 0 < y) (hL : L ≤ 1073741824) (hK : K ≤ 1073741824) : Calls Tryz.prog 57 #[v, u] w (GN w (Nat.lcm x y) (L + K)) := by
  have HE : Hid (x / Nat.gcd x y * y = Nat.lcm x y) := by
    show _ = _
    obtain ⟨k, hk⟩ := Nat.gcd_dvd_left x y
    have hg := Nat.gcd_pos_of_pos_left y hx
    rw [Nat.lcm]
    generalize Nat.gcd x y = g at *
    subst hk
    rw [Nat.mul_div_cancel_left _ hg, Nat.mul_assoc, Nat.mul_div_cancel_left _ hg]
  have HX := Lib.hid hx
  have HY := Lib.hid hy
  have HG := Lib.hid (Nat.gcd_pos_of_pos_left y hx)
  have H := Lib.hid h
  have H' := Lib.hid h'
  obtain ⟨_, _, _, _, rfl, _⟩ := id h
  obtain ⟨_, _, _, _, rfl, _⟩ := id h'
  clear h h' hx hy
  go_enter Tryz.func57, Tryz.ntmps57
  go_wp2_with fail
  refine (isZero_no H.out HX.out (by omega)).mono ?_
  rintro e w1 ⟨rfl, hb1⟩
  go_wp2_with fail
  refine (isZero_no (H'.out.below hb1) HY.out (by omega)).mono ?_
  rintro e w2 ⟨rfl, hb2⟩
  go_wp2_with fail
  refine (gcd_any ((H.out.below hb1).below hb2) ((H'.out.below hb1).below hb2) (by omega) (by omega)).mono ?_
  rintro e w3 ⟨A_g, n_g, c_g, rfl, o_g, hb3, l_g⟩
  go_wp2_with fail
  refine (gquo_any (((H.out.below hb1).below hb2).below hb3) (o_g.num l_g) HG.out (by omega) (by omega)).mono ?_
  rintro e w4 ⟨A_q, n_q, c_q, rfl, o_q, hb4, l_q⟩
  go_wp2_with fail
  refine (mul_any (o_q.num l_q) ((((H'.out.below hb1).below hb2).below hb3).below hb4) (by omega) (by omega)).mono ?_
  rintro e w5 ⟨A_l, n_l, c_l, rfl, o_l, hb5, l_l⟩
  go_wp2
  go_ret
  rw [HE.out] at o_l
  exact ⟨_, _, _, rfl, (o_l.mono (bt (bt (bt hb1 hb2) hb3) hb4).size), (bt (bt (bt (bt hb1 hb2) hb3) hb4) hb5), by omega⟩
theorem lcm_any {v u : Value} {x y L K : Nat} {w : World} (h : Num w v x L) (h' : Num w u y K) (hL : L ≤ 1073741824) (hK : K ≤ 1073741824) : Calls Tryz.prog 57 #[v, u] w (GN w (Nat.lcm x y) (L + K)) := by
  by_cases hz : x = 0 ∨ y = 0
  · have e : Nat.lcm x y = 0 := by rcases hz with rfl | rfl <;> simp
    rw [e]
    exact (lcm_zero h h' hz hL hK).mono fun _ _ ⟨A, n, c, e, o, b, l⟩ => ⟨A, n, c, e, o, b, by omega⟩
  · exact lcm_pos h h' (by omega) (by omega) hL hK
end Go.Proofs.YtamfhmmcnlollaaGreat
namespace Go.Proofs.YtamfhmmcnlollaaGreat
set_option linter.unusedVariables false

/-- r = s a modulo m -/
def Cong (m a r s : Nat) : Prop := (m : Int) ∣ (r : Int) - (s : Int) * (a : Int)
theorem Cong.start0 (m a : Nat) : Cong m a m 0 := ⟨1, by simp⟩
theorem Cong.start1 (m a : Nat) : Cong m a (a % m) (1 % m) := by
  rcases (show m = 1 ∨ m ≠ 1 by omega) with rfl | h
  · exact ⟨_, (Int.one_mul _).symm⟩
  · rcases (show m = 0 ∨ 1 < m by omega) with rfl | h
    · simp [Cong]
    · rw [Nat.mod_eq_of_lt h]
      refine ⟨-((a / m : Nat) : Int), ?_⟩
      have := Nat.mod_add_div a m
      have e : (a : Int) = ((a % m : Nat) : Int) + (m : Int) * ((a / m : Nat) : Int) := by rw [← Int.natCast_mul, ← Int.natCast_add, this]
      rw [Int.mul_neg]
      omega
theorem cong_mod (m x : Nat) : (m : Int) ∣ ((x % m : Nat) : Int) - (x : Int) := by
  refine ⟨-((x / m : Nat) : Int), ?_⟩
  have := Nat.mod_add_div x m
  have e : (x : Int) = ((x % m : Nat) : Int) + (m : Int) * ((x / m : Nat) : Int) := by rw [← Int.natCast_mul, ← Int.natCast_add, this]
  rw [Int.mul_neg]
  omega
theorem Cong.step {m a r0 r1 s0 s1 : Nat} (h0 : Cong m a r0 s0) (h1 : Cong m a r1 s1) (hm : 0 < m) : Cong m a (r0 % r1) ((s0 + (m - r0 / r1 * s1 % m)) % m) := by
  have hq : ((r0 % r1 : Nat) : Int) = (r0 : Int) - ((r0 / r1 : Nat) : Int) * (r1 : Int) := by
    have := Nat.mod_add_div r0 r1
    have e : (r0 : Int) = ((r0 % r1 : Nat) : Int) + (r1 : Int) * ((r0 / r1 : Nat) : Int) := by rw [← Int.natCast_mul, ← Int.natCast_add, this]
    rw [Int.mul_comm (r1 : Int)] at e
    omega
  have hlt := Nat.mod_lt (r0 / r1 * s1) hm
  have c1 := cong_mod m (s0 + (m - r0 / r1 * s1 % m))
  have c2 := cong_mod m (r0 / r1 * s1)
  rw [Int.natCast_add, Int.natCast_sub (Nat.le_of_lt hlt)] at c1
  rw [Int.natCast_mul] at c2
  generalize (s0 + (m - r0 / r1 * s1 % m)) % m = s' at *
  generalize r0 / r1 * s1 % m = t at *
  generalize r0 / r1 = q at *
  unfold Cong at *
  rw [hq]
  obtain ⟨k0, e0⟩ := h0
  obtain ⟨k1, e1⟩ := h1
  obtain ⟨k2, e2⟩ := c1
  obtain ⟨k3, e3⟩ := c2
  refine ⟨k0 - q * k1 - k2 * a - a + k3 * a, ?_⟩
  have f0 : (r0 : Int) = m * k0 + s0 * a := by omega
  have f1 : (r1 : Int) = m * k1 + s1 * a := by omega
  have f2 : (s' : Int) = m * k2 + s0 + (m - t) := by omega
  have f3 : (t : Int) = m * k3 + q * s1 := by omega
  rw [f0, f1, f2, f3]
  simp only [Int.mul_add, Int.add_mul, Int.mul_sub, Int.sub_mul]
  have a1 : (q : Int) * (m * k1) = m * (q * k1) := Int.mul_left_comm _ _ _
  have a2 : (m : Int) * k2 * a = m * (k2 * a) := Int.mul_assoc _ _ _
  have a3 : (m : Int) * k3 * a = m * (k3 * a) := Int.mul_assoc _ _ _
  have a4 : (q : Int) * s1 * a = q * (s1 * a) := Int.mul_assoc _ _ _
  rw [a1, a2, a3, a4]
  omega
/-- at the end -/
theorem Cong.last {m a g s : Nat} (h : Cong m a g s) (hg : g = Nat.gcd a m) (hm : 0 < m) : s % (m / g) < m / g ∧ Cong m a g (s % (m / g)) := by
  have hgm : g ∣ m := by rw [hg]; exact Nat.gcd_dvd_right a m
  have hga : g ∣ a := by rw [hg]; exact Nat.gcd_dvd_left a m
  have hg0 : 0 < g := by rw [hg]; exact Nat.gcd_pos_of_pos_right a hm
  obtain ⟨p, hp⟩ := hgm
  obtain ⟨b, hb⟩ := hga
  have hp0 : 0 < p := by
    rcases Nat.eq_zero_or_pos p with h0 | h0
    · subst h0; omega
    · exact h0
  have e1 : m / g = p := by rw [hp, Nat.mul_div_cancel_left _ hg0]
  rw [e1]
  refine ⟨Nat.mod_lt _ hp0, ?_⟩
  obtain ⟨k, e⟩ := h
  have hs := Nat.mod_add_div s p
  have e2 : (s : Int) = ((s % p : Nat) : Int) + (p : Int) * ((s / p : Nat) : Int) := by rw [← Int.natCast_mul, ← Int.natCast_add, hs]
  generalize s % p = x at *
  generalize s / p = d at *
  refine ⟨k + d * b, ?_⟩
  have f1 : (g : Int) = m * k + s * a := by omega
  have f2 : (m : Int) = g * p := by rw [← Int.natCast_mul, ← hp]
  have f3 : (a : Int) = g * b := by rw [← Int.natCast_mul, ← hb]
  have f4 : (p : Int) * d * a = m * (d * b) := by
    rw [f2, f3, Int.mul_assoc, Int.mul_left_comm (d : Int), ← Int.mul_assoc, ← Int.mul_assoc, Int.mul_comm (p : Int)]
    simp only [Int.mul_assoc]
  have f5 : (s : Int) * a = x * a + m * (d * b) := by rw [e2, Int.add_mul, f4]
  rw [Int.mul_add]
  omega
/-- by numbers from 0 on -/
theorem Cong.nat {m a g x : Nat} (h : Cong m a g x) : (∃ k, x * a = g + m * k) ∨ ∃ k, g = x * a + m * k := by
  obtain ⟨k, e⟩ := h
  rcases Int.le_total 0 k with h0 | h0
  · obtain ⟨j, rfl⟩ := Int.eq_ofNat_of_zero_le h0
    refine .inr ⟨j, ?_⟩
    have : (g : Int) = ((x * a + m * j : Nat) : Int) := by rw [Int.natCast_add, Int.natCast_mul, Int.natCast_mul]; omega
    exact Int.ofNat.inj this
  · obtain ⟨j, hj⟩ := Int.eq_ofNat_of_zero_le (show 0 ≤ -k by omega)
    refine .inl ⟨j, ?_⟩
    have e2 : k = -(j : Int) := by omega
    have : ((x * a : Nat) : Int) = ((g + m * j : Nat) : Int) := by
      rw [Int.natCast_add, Int.natCast_mul, Int.natCast_mul]
      rw [e2, Int.mul_neg] at e
      omega
    exact Int.ofNat.inj this
end Go.Proofs.YtamfhmmcnlollaaGreat
namespace Go.Proofs.YtamfhmmcnlollaaGreat
open Go.RowKit
set_option linter.unusedVariables false

/-- what factor gives -/
def GFac (w : World) (a m L : Nat) (e : Ending) (w' : World) : Prop :=
  ∃ x, (x < m / Nat.gcd a m ∧ Cong m a (Nat.gcd a m) x) ∧ GN2 w (Nat.gcd a m) L x L e w'
set_option maxHeartbeats 2000000 in
theorem factor_any {v u : Value} {a m L K : Nat} {w : World} (h : Num w v a L) (h' : Num w u m K) (hm : 0 < m) (hL : L ≤ 268435456) (hK : K ≤ 268435456) : Calls Tryz.prog 79 #[v, u] w (GFac w a m K) := by
  have H := Lib.hid h
  have H' := Lib.hid h'
  have HM := Lib.hid hm
  have h1W : Hid (1 < W) := W_gt
  obtain ⟨_, _, _, _, rfl, _⟩ := id h
  obtain ⟨_, _, _, _, rfl, _⟩ := id h'
  clear h h' hm
  go_enter Tryz.func79, Tryz.ntmps79
  go_wp2_with fail
  refine (nnorm_any H'.out (by omega)).mono ?_
  rintro e w1 ⟨A_r, n_r, c_r, rfl, o_r, hb1, l_r⟩
  go_wp2_with fail
  refine (gmod_any (H.out.below hb1) (H'.out.below hb1) HM.out (by omega) (by omega)).mono ?_
  rintro e w2 ⟨A_q, n_q, c_q, rfl, o_q, hb2, l_q⟩
  go_wp2_with fail
  refine (nof_any rfl h1W.out).mono ?_
  rintro e w3 ⟨A_o, n_o, c_o, rfl, o_o, hb3, l_o⟩
  go_wp2_with fail
  refine (gmod_any (o_o.num l_o) (((H'.out.below hb1).below hb2).below hb3) HM.out (by omega) (by omega)).mono ?_
  rintro e w4 ⟨A_s, n_s, c_s, rfl, o_s, hb4, l_s⟩
  have HS := Lib.hid (And.intro (((o_r.below hb2).below hb3).below hb4) (And.intro (((o_q.mono hb1.size).below hb3).below hb4) (And.intro (o_s.mono (bt (bt hb1 hb2) hb3).size) (bt (bt (bt hb1 hb2) hb3) hb4))))
  clear o_r o_q o_o o_s
  go_wp2_with fail
  go_loopw [6, 7, 8, 9] (fun r0 r1 s0 s1 wr => ∃ (A1 A2 A3 A4 : Option Addr) (n1 c1 n2 c2 n3 c3 n4 c4 x y s t : Nat), Hid (Own .u64 41 w.heap.size wr A1 n1 c1 (dg W x) ∧ Own .u64 41 w.heap.size wr A2 n2 c2 (dg W y) ∧ Own .u64 41 w.heap.size wr A3 n3 c3 (dg W s) ∧ Own .u64 41 w.heap.size wr A4 n4 c4 (dg W t) ∧ Below w.heap.size w wr) ∧
    Hid (Nat.gcd x y = Nat.gcd a m ∧ Cong m a x s ∧ Cong m a y t) ∧ n1 ≤ K ∧ n2 ≤ K ∧ n3 ≤ K ∧ n4 ≤ K ∧ r0 = .slice A1 n1 c1 ∧ r1 = .slice A2 n2 c2 ∧ s0 = .slice A3 n3 c3 ∧ s1 = .slice A4 n4 c4) (fun r0 r1 s0 s1 wr => mval wr r1)
  case atStart => exact ⟨_, _, _, _, _, _, _, _, _, _, _, _, _, _, _, _, ⟨HS.out.1, HS.out.2.1, Own.nildg, HS.out.2.2⟩, ⟨by rw [Nat.gcd_comm m, ← Nat.gcd_rec, Nat.gcd_comm], Cong.start0 _ _, Cong.start1 _ _⟩, by omega, by omega, by omega, by omega, rfl, rfl, rfl, rfl⟩
  case round =>
    obtain ⟨A1, A2, A3, A4, n1, c1, n2, c2, n3, c3, n4, c4, x, y, s, t, hI, hG, ln1, ln2, ln3, ln4, rfl, rfl, rfl, rfl⟩ := hrel
    obtain ⟨wz, hwz⟩ : ∃ wz : World, wz = wr := ⟨_, rfl⟩
    have HZ := Lib.hid hwz
    clear hwz
    have N1 := Lib.hid (hI.out.1.num (L := K) ln1)
    have N2 := Lib.hid (hI.out.2.1.num (L := K) ln2)
    have N3 := Lib.hid (hI.out.2.2.1.num (L := K) ln3)
    have N4 := Lib.hid (hI.out.2.2.2.1.num (L := K) ln4)
    have NM := Lib.hid (H'.out.below hI.out.2.2.2.2)
    rcases Nat.eq_zero_or_pos y with hy | hy
    · obtain rfl := len_zero hI.out.2.1 hy
      have hx : x = Nat.gcd a m := by rw [← hG.out.1, hy, Nat.gcd_zero_right]
      have hgp : 0 < x := by rw [hx]; exact Nat.gcd_pos_of_pos_right a HM.out
      have hlast := hG.out.2.1.last hx HM.out
      have hmg : 0 < m / x := by omega
      have HX := Lib.hid (And.intro hgp (And.intro hmg hlast))
      have HXE := Lib.hid hx
      clear hy hx hgp hmg hlast
      go_wp2_with fail
      refine (gquo_any NM.out N1.out HX.out.1 (by omega) (by omega)).mono ?_
      rintro e w1 ⟨A_d, n_d, c_d, rfl, o_d, hb1, l_d⟩
      go_wp2_with fail
      refine (gmod_any (N3.out.below hb1) (o_d.num l_d) HX.out.2.1 (by omega) (by omega)).mono ?_
      rintro e w2 ⟨A_z, n_z, c_z, rfl, o_z, hb2, l_z⟩
      go_wp2
      go_ret2
      refine ⟨s % (m / x), ?_, ?_⟩
      · rw [← HXE.out]; exact HX.out.2.2
      · rw [← HXE.out]
        exact ⟨_, _, _, _, _, _, rfl, hI.out.1.below (bt hb1 hb2), (o_z.mono hb1.size).mono hI.out.2.2.2.2.size, bt hI.out.2.2.2.2 (bt hb1 hb2), ln1, l_z⟩
    · have hp := len_pos hI.out.2.1 hy
      have HY := Lib.hid hy
      have HML := Lib.hid (Nat.le_of_lt (Nat.mod_lt (x / y * t) HM.out))
      clear hy
      go_wp2_with fail
      refine (quo_any N1.out N2.out HY.out (by omega) (by omega)).mono ?_
      rintro e w1 ⟨A_q, n_q, c_q, A_r, n_r, c_r, rfl, o_q, o_r, hb1, l_q, l_r⟩
      go_wp2_with fail
      refine (mul_any (o_q.num l_q) (N4.out.below hb1) (by omega) (by omega)).mono ?_
      rintro e w2 ⟨A_p, n_p, c_p, rfl, o_p, hb2, l_p⟩
      go_wp2_with fail
      refine (gmod_any (o_p.num l_p) ((NM.out.below hb1).below hb2) HM.out (by omega) (by omega)).mono ?_
      rintro e w3 ⟨A_qs, n_qs, c_qs, rfl, o_qs, hb3, l_qs⟩
      go_wp2_with fail
      refine (gsub_any (((NM.out.below hb1).below hb2).below hb3) (o_qs.num l_qs) HML.out (by omega) (by omega)).mono ?_
      rintro e w4 ⟨A_d, n_d, c_d, rfl, o_d, hb4, l_d⟩
      go_wp2_with fail
      refine (nadd_any ((((N3.out.below hb1).below hb2).below hb3).below hb4) (o_d.num l_d) (by omega) (by omega)).mono ?_
      rintro e w5 ⟨A_e, n_e, c_e, rfl, o_e, hb5, l_e⟩
      go_wp2_with fail
      refine (gmod_any (o_e.num l_e) (((((NM.out.below hb1).below hb2).below hb3).below hb4).below hb5) HM.out (by omega) (by omega)).mono ?_
      rintro e w6 ⟨A_z, n_z, c_z, rfl, o_z, hb6, l_z⟩
      have NR : Hid (mval w6 (.slice A_r n_r c_r) < mval wr (.slice A2 n2 c2)) := by show _ < _; rw [mval_num ((((((o_r.num l_r).below hb2).below hb3).below hb4).below hb5).below hb6), mval_num N2.out]; exact Nat.mod_lt _ HY.out
      have HW := Lib.hid (And.intro (hI.out.2.1.below (bt (bt (bt (bt (bt hb1 hb2) hb3) hb4) hb5) hb6)) (And.intro ((((((o_r.below hb2).below hb3).below hb4).below hb5).below hb6).mono hI.out.2.2.2.2.size) (And.intro (hI.out.2.2.2.1.below (bt (bt (bt (bt (bt hb1 hb2) hb3) hb4) hb5) hb6)) (And.intro ((o_z.mono (bt (bt (bt (bt hb1 hb2) hb3) hb4) hb5).size).mono hI.out.2.2.2.2.size) (bt hI.out.2.2.2.2 (bt (bt (bt (bt (bt hb1 hb2) hb3) hb4) hb5) hb6))))))
      go_wp2
      go_roundw
      case rel =>
        refine ⟨A2, A_r, A4, A_z, n2, c2, n_r, c_r, n4, c4, n_z, c_z, y, x % y, t, _, HW, ⟨?_, hG.out.2.2, hG.out.2.1.step hG.out.2.2 HM.out⟩, ln2, by omega, ln4, by omega, rfl, rfl, rfl, rfl⟩
        rw [← hG.out.1, Nat.gcd_comm y, ← Nat.gcd_rec, Nat.gcd_comm]
      case measure => exact NR.out
end Go.Proofs.YtamfhmmcnlollaaGreat
namespace Go.Proofs.YtamfhmmcnlollaaGreat
open Go.RowKit
set_option linter.unusedVariables false

/-- a cell that may be written -/
def Cel (w : World) (p : Addr) (v : Value) : Prop := w.cell? p = some v ∧ w.frozen? p = false ∧ p.block < w.heap.size
theorem Cel.below {w w' : World} {p : Addr} {v : Value} (h : Cel w p v) (hb : Below w.heap.size w w') : Cel w' p v := ⟨(hb.cell h.2.2).trans h.1, (hb.frozen h.2.2).trans h.2.1, Nat.lt_of_lt_of_le h.2.2 hb.size⟩
theorem Cel.box {i : Nat} {v : Value} {t : TypeId} {b : Nat} (w : World) (vs : Array Value) (h : vs[i]? = some v) (hb : b = w.heap.size) : Cel (w.alloc (.cells vs t)) ⟨b, i, none⟩ v := by
  subst hb
  refine ⟨(At.box w vs h).1, ?_, by simp⟩
  unfold World.frozen?
  rw [heap_alloc_new]
  simp

/-- x a + y b = g, as the chapter fixes it -/
def ExtOk (a b x y : Nat) (neg : Bool) : Prop :=
  (neg = true ∧ 0 < y ∧ x * a = Nat.gcd a b + y * b ∨ neg = false ∧ Nat.gcd a b = x * a + y * b) ∧ (b = 0 → y = 0 ∧ x = if a = 0 then 0 else 1) ∧ (0 < b → x < b / Nat.gcd a b)
def GExt (w : World) (a b L : Nat) (e : Ending) (w' : World) : Prop :=
  ∃ (x y : Nat) (neg : Bool) (A1 : Option Addr) (n1 c1 : Nat) (A2 : Option Addr) (n2 c2 : Nat) (A3 : Option Addr) (n3 c3 : Nat), ExtOk a b x y neg ∧ e = .returned (.tuple #[.slice A1 n1 c1, .agg #[.bool false, .slice A2 n2 c2], .agg #[.bool neg, .slice A3 n3 c3]]) ∧
    (Own .u64 41 w.heap.size w' A1 n1 c1 (dg W (Nat.gcd a b)) ∧ Own .u64 41 w.heap.size w' A2 n2 c2 (dg W x) ∧ Own .u64 41 w.heap.size w' A3 n3 c3 (dg W y)) ∧ Below w.heap.size w w' ∧ n1 ≤ L ∧ n2 ≤ L ∧ n3 ≤ L
/-- a store below its base -/
theorem Own.set_low {k : IntKind} {t : TypeId} {B n c : Nat} {w : World} {A : Option Addr} {xs : List Nat} {p : Addr} (h : Own k t B w A n c xs) (hp : p.block < B) (u : Value) : Own k t B (w.setCell p u) A n c xs := by
  refine ⟨h.1, ?_⟩
  rcases h.2 with h2 | ⟨g, cap, cur, hv, hg, hh, r⟩
  · exact .inl h2
  · refine .inr ⟨g, cap, cur, hv, hg, ?_, r⟩
    rw [Below.heap_setCell w p u g (by rintro rfl; omega)]
    exact hh
theorem Own.set4 {k : IntKind} {t : TypeId} {B n c b : Nat} {w : World} {A : Option Addr} {xs : List Nat} {u1 u2 u3 u4 : Value} (h : Own k t B w A n c xs) (hp : b + 1 < B) : Own k t B ((((w.setCell ⟨b, 0, none⟩ u1).setCell ⟨b, 1, none⟩ u2).setCell ⟨b + 1, 0, none⟩ u3).setCell ⟨b + 1, 1, none⟩ u4) A n c xs :=
  (((h.set_low (p := ⟨b, 0, none⟩) (by show b < B; omega) u1).set_low (p := ⟨b, 1, none⟩) (by show b < B; omega) u2).set_low (p := ⟨b + 1, 0, none⟩) hp u3).set_low (p := ⟨b + 1, 1, none⟩) hp u4
set_option maxHeartbeats 1000000 in
theorem extended_00 {v u : Value} {x y L K : Nat} {w : World} (h : Num w v x L) (h' : Num w u y K) (hx : x = 0) (hy : y = 0) (hL : L ≤ 268435456) (hK : K ≤ 268435456) :
    Calls Tryz.prog 33 #[v, u] w (GExt w x y (L + K)) := by
  have H := Lib.hid h
  have H' := Lib.hid h'
  obtain ⟨_, _, _, _, rfl, _⟩ := id h
  obtain ⟨_, _, _, _, rfl, _⟩ := id h'
  have HX := Lib.hid (And.intro hx hy)
  clear h h' hx hy
  go_enter Tryz.func33, Tryz.ntmps33
  go_wp2_with fail
  refine (isZero_yes ((H'.out.below ((Below.refl _ _).alloc (Nat.le_refl _) _)).below ((Below.refl _ _).alloc (Nat.le_refl _) _)) HX.out.2 (by omega)).mono ?_
  rintro e w1 ⟨rfl, hb1⟩
  go_wp2_with fail
  refine (nnorm_any (((H.out.below ((Below.refl _ _).alloc (Nat.le_refl _) _)).below ((Below.refl _ _).alloc (Nat.le_refl _) _)).below hb1) (by omega)).mono ?_
  rintro e w2 ⟨A_g, n_g, c_g, rfl, o_g, hb2, l_g⟩
  obtain rfl := len_zero o_g HX.out.1
  have c1 := ((((Cel.box (i := 0) (v := .bool false) (t := 60) w #[.bool false, .slice none 0 0] rfl rfl).below ((Below.refl _ _).alloc (Nat.le_refl _) _)).below hb1).below hb2)
  have c2 := ((((Cel.box (i := 1) (v := .slice none 0 0) (t := 60) w #[.bool false, .slice none 0 0] rfl rfl).below ((Below.refl _ _).alloc (Nat.le_refl _) _)).below hb1).below hb2)
  have c3 := (((Cel.box (i := 0) (v := .bool false) (t := 60) (b := w.heap.size + 1) _ #[.bool false, .slice none 0 0] rfl (by simp)).below hb1).below hb2)
  have c4 := (((Cel.box (i := 1) (v := .slice none 0 0) (t := 60) (b := w.heap.size + 1) _ #[.bool false, .slice none 0 0] rfl (by simp)).below hb1).below hb2)
  obtain ⟨c1a, c1b, c1c⟩ := c1
  obtain ⟨c2a, c2b, c2c⟩ := c2
  obtain ⟨c3a, c3b, c3c⟩ := c3
  obtain ⟨c4a, c4b, c4c⟩ := c4
  go_wp2
  refine bodyPost_ret (v := .tuple #[.slice none 0 0, .agg #[.bool false, .slice none 0 0], .agg #[.bool false, .slice none 0 0]]) (by simp [results, Tryz.results33, go_sem, c1a, c2a, c3a, c4a]) rfl ?_
  have HB := ((((bt (bt (bt ((Below.refl _ _).alloc (Nat.le_refl _) _) ((Below.refl _ _).alloc (Nat.le_refl _) _)) hb1) hb2).setCell (p := ⟨w.heap.size, 0, none⟩) (Nat.le_refl _) (.bool false)).setCell (p := ⟨w.heap.size, 1, none⟩) (Nat.le_refl _) (.slice none 0 0)).setCell (p := ⟨w.heap.size + 1, 0, none⟩) (by simp) (.bool false)).setCell (p := ⟨w.heap.size + 1, 1, none⟩) (by simp) (.slice none 0 0)
  have e : Nat.gcd x y = 0 := by rw [HX.out.1, HX.out.2]; rfl
  exact ⟨0, 0, false, _, _, _, _, _, _, _, _, _, ⟨.inr ⟨rfl, by rw [e]; simp⟩, fun _ => ⟨rfl, by rw [if_pos HX.out.1]⟩, fun h => by have := HX.out.2; omega⟩, rfl, ⟨by rw [e]; exact Own.nildg, Own.nildg, Own.nildg⟩, HB, Nat.zero_le _, Nat.zero_le _, Nat.zero_le _⟩
set_option maxHeartbeats 2000000 in
theorem extended_a0 {v u : Value} {x y L K : Nat} {w : World} (h : Num w v x L) (h' : Num w u y K) (hx : 0 < x) (hy : y = 0) (hL : L ≤ 268435456) (hK : K ≤ 268435456) :
    Calls Tryz.prog 33 #[v, u] w (GExt w x y (L + K)) := by
  have hL0 : 0 < L := by
    have := h.lt
    rcases Nat.eq_zero_or_pos L with h0 | h0
    · rw [h0, Nat.pow_zero] at this; omega
    · exact h0
  have h1W : Hid (1 < W) := W_gt
  have H := Lib.hid h
  have H' := Lib.hid h'
  obtain ⟨_, _, _, _, rfl, _⟩ := id h
  obtain ⟨_, _, _, _, rfl, _⟩ := id h'
  have HX := Lib.hid (And.intro hx hy)
  clear h h' hx hy
  go_enter Tryz.func33, Tryz.ntmps33
  go_wp2_with fail
  refine (isZero_yes ((H'.out.below ((Below.refl _ _).alloc (Nat.le_refl _) _)).below ((Below.refl _ _).alloc (Nat.le_refl _) _)) HX.out.2 (by omega)).mono ?_
  rintro e w1 ⟨rfl, hb1⟩
  have Ha1 := Lib.hid (((H.out.below ((Below.refl _ _).alloc (Nat.le_refl _) _)).below ((Below.refl _ _).alloc (Nat.le_refl _) _)).below hb1)
  have Hb1 := Lib.hid (((H'.out.below ((Below.refl _ _).alloc (Nat.le_refl _) _)).below ((Below.refl _ _).alloc (Nat.le_refl _) _)).below hb1)
  have F0 := Lib.hid (((Cel.box (i := 0) (v := .bool false) (t := 60) w #[.bool false, .slice none 0 0] rfl rfl).below ((Below.refl _ _).alloc (Nat.le_refl _) _)).below hb1)
  have F1 := Lib.hid (((Cel.box (i := 1) (v := .slice none 0 0) (t := 60) w #[.bool false, .slice none 0 0] rfl rfl).below ((Below.refl _ _).alloc (Nat.le_refl _) _)).below hb1)
  have G0 := Lib.hid ((Cel.box (i := 0) (v := .bool false) (t := 60) (b := w.heap.size + 1) _ #[.bool false, .slice none 0 0] rfl (by simp)).below hb1)
  have G1 := Lib.hid ((Cel.box (i := 1) (v := .slice none 0 0) (t := 60) (b := w.heap.size + 1) _ #[.bool false, .slice none 0 0] rfl (by simp)).below hb1)
  have HB0 := Lib.hid (bt (bt ((Below.refl _ _).alloc (Nat.le_refl _) _) ((Below.refl _ _).alloc (Nat.le_refl _) _)) hb1)
  have SZ : w.heap.size + 1 < w1.heap.size := G0.out.2.2
  obtain ⟨wz, rfl⟩ : ∃ wz : World, wz = w1 := ⟨_, rfl⟩
  go_wp2_with fail
  refine (nnorm_any Ha1.out (by omega)).mono ?_
  rintro e w1 ⟨A_g, n_g, c_g, rfl, o_g, hb1, l_g⟩
  have z := len_pos o_g HX.out.1
  have z1 : ((n_g : Int) == 0) = false := by rw [beq_eq_false_iff_ne]; omega
  go_wp2_with fail
  refine (nof_any rfl h1W.out).mono ?_
  rintro e w2 ⟨A_o, n_o, c_o, rfl, o_o, hb2, l_o⟩
  have c1 := ((F0.out.below hb1).below hb2)
  have c2 := ((F1.out.below hb1).below hb2)
  have c3 := ((G0.out.below hb1).below hb2)
  have c4 := ((G1.out.below hb1).below hb2)
  obtain ⟨c1a, c1b, c1c⟩ := c1
  obtain ⟨c2a, c2b, c2c⟩ := c2
  obtain ⟨c3a, c3b, c3c⟩ := c3
  obtain ⟨c4a, c4b, c4c⟩ := c4
  go_wp2
  refine bodyPost_ret (v := .tuple #[.slice A_g n_g c_g, .agg #[.bool false, .slice A_o n_o c_o], .agg #[.bool false, .slice none 0 0]]) (by simp [results, Tryz.results33, go_sem, c1a, c2a, c3a, c4a]) rfl ?_
  have HB := ((((bt HB0.out (bt hb1 hb2)).setCell (p := ⟨w.heap.size, 0, none⟩) (Nat.le_refl _) (.bool false)).setCell (p := ⟨w.heap.size, 1, none⟩) (Nat.le_refl _) (.slice A_o n_o c_o)).setCell (p := ⟨w.heap.size + 1, 0, none⟩) (by simp) (.bool false)).setCell (p := ⟨w.heap.size + 1, 1, none⟩) (by simp) (.slice none 0 0)
  have e : Nat.gcd x y = x := by rw [HX.out.2, Nat.gcd_zero_right]
  exact ⟨1, 0, false, _, _, _, _, _, _, _, _, _, ⟨.inr ⟨rfl, by rw [e]; simp⟩, fun _ => ⟨rfl, by rw [if_neg (by have := HX.out.1; omega)]⟩, fun h => by have := HX.out.2; omega⟩, rfl, ⟨by rw [e]; exact ((o_g.below hb2).set4 SZ).mono HB0.out.size, ((o_o.mono hb1.size).set4 SZ).mono HB0.out.size, Own.nildg⟩, HB, by omega, by omega, Nat.zero_le _⟩
set_option maxHeartbeats 4000000 in
theorem extended_b {v u : Value} {x y L K : Nat} {w : World} (h : Num w v x L) (h' : Num w u y K) (hx : True) (hy : 0 < y) (hL : L ≤ 268435456) (hK : K ≤ 268435456) :
    Calls Tryz.prog 33 #[v, u] w (GExt w x y (L + K)) := by
  have hyp := hy
  have H := Lib.hid h
  have H' := Lib.hid h'
  obtain ⟨_, _, _, _, rfl, _⟩ := id h
  obtain ⟨_, _, _, _, rfl, _⟩ := id h'
  have HX := Lib.hid (And.intro hx hy)
  clear h h' hx hy
  go_enter Tryz.func33, Tryz.ntmps33
  go_wp2_with fail
  refine (isZero_no ((H'.out.below ((Below.refl _ _).alloc (Nat.le_refl _) _)).below ((Below.refl _ _).alloc (Nat.le_refl _) _)) HX.out.2 (by omega)).mono ?_
  rintro e w1 ⟨rfl, hb1⟩
  have Ha1 := Lib.hid (((H.out.below ((Below.refl _ _).alloc (Nat.le_refl _) _)).below ((Below.refl _ _).alloc (Nat.le_refl _) _)).below hb1)
  have Hb1 := Lib.hid (((H'.out.below ((Below.refl _ _).alloc (Nat.le_refl _) _)).below ((Below.refl _ _).alloc (Nat.le_refl _) _)).below hb1)
  have F0 := Lib.hid (((Cel.box (i := 0) (v := .bool false) (t := 60) w #[.bool false, .slice none 0 0] rfl rfl).below ((Below.refl _ _).alloc (Nat.le_refl _) _)).below hb1)
  have F1 := Lib.hid (((Cel.box (i := 1) (v := .slice none 0 0) (t := 60) w #[.bool false, .slice none 0 0] rfl rfl).below ((Below.refl _ _).alloc (Nat.le_refl _) _)).below hb1)
  have G0 := Lib.hid ((Cel.box (i := 0) (v := .bool false) (t := 60) (b := w.heap.size + 1) _ #[.bool false, .slice none 0 0] rfl (by simp)).below hb1)
  have G1 := Lib.hid ((Cel.box (i := 1) (v := .slice none 0 0) (t := 60) (b := w.heap.size + 1) _ #[.bool false, .slice none 0 0] rfl (by simp)).below hb1)
  have HB0 := Lib.hid (bt (bt ((Below.refl _ _).alloc (Nat.le_refl _) _) ((Below.refl _ _).alloc (Nat.le_refl _) _)) hb1)
  have SZ : w.heap.size + 1 < w1.heap.size := G0.out.2.2
  obtain ⟨wz, rfl⟩ : ∃ wz : World, wz = w1 := ⟨_, rfl⟩
  go_wp2_with fail
  refine (factor_any Ha1.out Hb1.out hyp (by omega) (by omega)).mono ?_
  rintro e wf ⟨s, ⟨hs, hc⟩, A_g, n_g, c_g, A_x, n_x, c_x, rfl, o_g, o_x, hbf, l_g, l_x⟩
  have HF := Lib.hid (And.intro hs hc)
  clear hs hc
  go_wp2_with fail
  refine (mul_any (o_x.num l_x) (Ha1.out.below hbf) (by omega) (by omega)).mono ?_
  rintro e w1 ⟨A_p, n_p, c_p, rfl, o_p, hb1, l_p⟩
  have C := Lib.hid (ndiff_any (w := w1) ((o_g.num l_g).below hb1) (o_p.num l_p) (by omega) (by omega))
  rcases HF.out.2.nat with ⟨k, hk⟩ | ⟨k, hk⟩
  · rcases Nat.eq_zero_or_pos k with hk0 | hk0
    · have HK : Hid (Nat.gcd x y = s * x + y * k) := by show _ = _; rw [hk, hk0]; simp
      have hd : Nat.gcd x y - s * x + (s * x - Nat.gcd x y) = y * k := by have := HK.out; omega
      rw [hd, decide_eq_false (by have := HK.out; omega)] at C
      clear hk hd hk0
      go_wp2_with fail
      refine (C.out).mono ?_
      rintro e w2 ⟨A_d, n_d, c_d, rfl, o_d, hb2, l_d⟩
      go_wp2_with fail
      refine (gquo_any (o_d.num l_d) (((Hb1.out.below hbf).below hb1).below hb2) HX.out.2 (by omega) (by omega)).mono ?_
      rintro e w3 ⟨A_q, n_q, c_q, rfl, o_q, hb3, l_q⟩
      rw [Nat.mul_div_cancel_left k HX.out.2] at o_q
      skip
      have c1 := ((((F0.out.below hbf).below hb1).below hb2).below hb3)
      have c2 := ((((F1.out.below hbf).below hb1).below hb2).below hb3)
      have c3 := ((((G0.out.below hbf).below hb1).below hb2).below hb3)
      have c4 := ((((G1.out.below hbf).below hb1).below hb2).below hb3)
      obtain ⟨c1a, c1b, c1c⟩ := c1
      obtain ⟨c2a, c2b, c2c⟩ := c2
      obtain ⟨c3a, c3b, c3c⟩ := c3
      obtain ⟨c4a, c4b, c4c⟩ := c4
      go_wp2
      refine bodyPost_ret (v := .tuple #[.slice A_g n_g c_g, .agg #[.bool false, .slice A_x n_x c_x], .agg #[.bool false, .slice A_q n_q c_q]]) (by simp [results, Tryz.results33, go_sem, c1a, c2a, c3a, c4a]) rfl ?_
      have HB := ((((bt HB0.out (bt (bt (bt hbf hb1) hb2) hb3)).setCell (p := ⟨w.heap.size, 0, none⟩) (Nat.le_refl _) (.bool false)).setCell (p := ⟨w.heap.size, 1, none⟩) (Nat.le_refl _) (.slice A_x n_x c_x)).setCell (p := ⟨w.heap.size + 1, 0, none⟩) (by simp) (.bool false)).setCell (p := ⟨w.heap.size + 1, 1, none⟩) (by simp) (.slice A_q n_q c_q)
      exact ⟨s, k, false, _, _, _, _, _, _, _, _, _, ⟨.inr ⟨rfl, by rw [HK.out, Nat.mul_comm k]⟩, fun h => by have := HX.out.2; omega, fun _ => HF.out.1⟩, rfl, ⟨((((o_g.below hb1).below hb2).below hb3).set4 SZ).mono HB0.out.size, ((((o_x.below hb1).below hb2).below hb3).set4 SZ).mono HB0.out.size, ((o_q.mono (bt (bt hbf hb1) hb2).size).set4 SZ).mono HB0.out.size⟩, HB, by omega, by omega, by omega⟩
    · have HK : Hid (s * x = Nat.gcd x y + k * y ∧ 0 < k) := ⟨by rw [hk, Nat.mul_comm], hk0⟩
      have hd : Nat.gcd x y - s * x + (s * x - Nat.gcd x y) = y * k := by omega
      have hpk : 0 < y * k := Nat.mul_pos HX.out.2 hk0
      rw [hd, decide_eq_true (by omega)] at C
      clear hk hd hk0 hpk
      go_wp2_with fail
      refine (C.out).mono ?_
      rintro e w4 ⟨A_d, n_d, c_d, rfl, o_d, hb4, l_d⟩
      go_wp2_with fail
      refine (gquo_any (o_d.num l_d) (((Hb1.out.below hbf).below hb1).below hb4) HX.out.2 (by omega) (by omega)).mono ?_
      rintro e w5 ⟨A_q, n_q, c_q, rfl, o_q, hb5, l_q⟩
      rw [Nat.mul_div_cancel_left k HX.out.2] at o_q
      (have zq := len_pos o_q HK.out.2);(have zq2 : (0 : Int) < (n_q : Int) := by omega)
      have c1 := ((((F0.out.below hbf).below hb1).below hb4).below hb5)
      have c2 := ((((F1.out.below hbf).below hb1).below hb4).below hb5)
      have c3 := ((((G0.out.below hbf).below hb1).below hb4).below hb5)
      have c4 := ((((G1.out.below hbf).below hb1).below hb4).below hb5)
      obtain ⟨c1a, c1b, c1c⟩ := c1
      obtain ⟨c2a, c2b, c2c⟩ := c2
      obtain ⟨c3a, c3b, c3c⟩ := c3
      obtain ⟨c4a, c4b, c4c⟩ := c4
      go_wp2
      refine bodyPost_ret (v := .tuple #[.slice A_g n_g c_g, .agg #[.bool false, .slice A_x n_x c_x], .agg #[.bool true, .slice A_q n_q c_q]]) (by simp [results, Tryz.results33, go_sem, c1a, c2a, c3a, c4a]) rfl ?_
      have HB := ((((bt HB0.out (bt (bt (bt hbf hb1) hb4) hb5)).setCell (p := ⟨w.heap.size, 0, none⟩) (Nat.le_refl _) (.bool false)).setCell (p := ⟨w.heap.size, 1, none⟩) (Nat.le_refl _) (.slice A_x n_x c_x)).setCell (p := ⟨w.heap.size + 1, 0, none⟩) (by simp) (.bool true)).setCell (p := ⟨w.heap.size + 1, 1, none⟩) (by simp) (.slice A_q n_q c_q)
      exact ⟨s, k, true, _, _, _, _, _, _, _, _, _, ⟨.inl ⟨rfl, HK.out.2, HK.out.1⟩, fun h => by have := HX.out.2; omega, fun _ => HF.out.1⟩, rfl, ⟨((((o_g.below hb1).below hb4).below hb5).set4 SZ).mono HB0.out.size, ((((o_x.below hb1).below hb4).below hb5).set4 SZ).mono HB0.out.size, ((o_q.mono (bt (bt hbf hb1) hb4).size).set4 SZ).mono HB0.out.size⟩, HB, by omega, by omega, by omega⟩
  · have HK : Hid (Nat.gcd x y = s * x + y * k) := hk
    have hd : Nat.gcd x y - s * x + (s * x - Nat.gcd x y) = y * k := by omega
    rw [hd, decide_eq_false (by omega)] at C
    clear hk hd
    go_wp2_with fail
    refine (C.out).mono ?_
    rintro e w6 ⟨A_d, n_d, c_d, rfl, o_d, hb6, l_d⟩
    go_wp2_with fail
    refine (gquo_any (o_d.num l_d) (((Hb1.out.below hbf).below hb1).below hb6) HX.out.2 (by omega) (by omega)).mono ?_
    rintro e w7 ⟨A_q, n_q, c_q, rfl, o_q, hb7, l_q⟩
    rw [Nat.mul_div_cancel_left k HX.out.2] at o_q
    skip
    have c1 := ((((F0.out.below hbf).below hb1).below hb6).below hb7)
    have c2 := ((((F1.out.below hbf).below hb1).below hb6).below hb7)
    have c3 := ((((G0.out.below hbf).below hb1).below hb6).below hb7)
    have c4 := ((((G1.out.below hbf).below hb1).below hb6).below hb7)
    obtain ⟨c1a, c1b, c1c⟩ := c1
    obtain ⟨c2a, c2b, c2c⟩ := c2
    obtain ⟨c3a, c3b, c3c⟩ := c3
    obtain ⟨c4a, c4b, c4c⟩ := c4
    go_wp2
    refine bodyPost_ret (v := .tuple #[.slice A_g n_g c_g, .agg #[.bool false, .slice A_x n_x c_x], .agg #[.bool false, .slice A_q n_q c_q]]) (by simp [results, Tryz.results33, go_sem, c1a, c2a, c3a, c4a]) rfl ?_
    have HB := ((((bt HB0.out (bt (bt (bt hbf hb1) hb6) hb7)).setCell (p := ⟨w.heap.size, 0, none⟩) (Nat.le_refl _) (.bool false)).setCell (p := ⟨w.heap.size, 1, none⟩) (Nat.le_refl _) (.slice A_x n_x c_x)).setCell (p := ⟨w.heap.size + 1, 0, none⟩) (by simp) (.bool false)).setCell (p := ⟨w.heap.size + 1, 1, none⟩) (by simp) (.slice A_q n_q c_q)
    exact ⟨s, k, false, _, _, _, _, _, _, _, _, _, ⟨.inr ⟨rfl, by rw [HK.out, Nat.mul_comm k]⟩, fun h => by have := HX.out.2; omega, fun _ => HF.out.1⟩, rfl, ⟨((((o_g.below hb1).below hb6).below hb7).set4 SZ).mono HB0.out.size, ((((o_x.below hb1).below hb6).below hb7).set4 SZ).mono HB0.out.size, ((o_q.mono (bt (bt hbf hb1) hb6).size).set4 SZ).mono HB0.out.size⟩, HB, by omega, by omega, by omega⟩
theorem extended_any {v u : Value} {x y L K : Nat} {w : World} (h : Num w v x L) (h' : Num w u y K) (hL : L ≤ 268435456) (hK : K ≤ 268435456) :
    Calls Tryz.prog 33 #[v, u] w (GExt w x y (L + K)) := by
  rcases Nat.eq_zero_or_pos y with hy | hy
  · rcases Nat.eq_zero_or_pos x with hx | hx
    · exact extended_00 h h' hx hy hL hK
    · exact extended_a0 h h' hx hy hL hK
  · exact extended_b h h' trivial hy hL hK
end Go.Proofs.YtamfhmmcnlollaaGreat
