/-
  Walks: nat.Of; div.Word, Quo, Mod, Exact, Divides, MulMod. Walks: div.Mod, Exact, Divides, MulMod, PowMod.
-/
import Derived.Test.YtamfhmmcnlollaaGreatDivC
import Derived.Test.YtamfhmmcnlollaaGreatMulX
import Derived.Test.YtamfhmmcnlollaaGreatRef3C
namespace Go.Proofs.YtamfhmmcnlollaaGreat
open Go.RowKit
set_option linter.unusedVariables false

theorem nof_any {x : Nat} {x' : Int} {w : World} (ex : x' = (x : Int)) (hx : x < W) : Calls Tryz.prog 78 #[.int .u64 x'] w (GN w x 1) := by
  subst ex
  have HL : Hid (Num (w.alloc (.cells #[.int .u64 (x : Int)] 41)) (.slice (some ⟨w.heap.size, 0, none⟩) 1 1) x 1) := by
    have := Num.lit (t := 41) w [x] rfl ⟨All.cons hx All.nil, by simp⟩
    rw [show val W [x] = x by simp [val]] at this
    exact this
  go_enter Tryz.func78, Tryz.ntmps78
  go_wp2_with fail
  refine (nown_any HL.out (by omega)).mono ?_
  rintro e w1 ⟨A1, n1, c1, rfl, ho1, hb1, hl1⟩
  go_wp2
  go_ret
  exact ⟨_, _, _, rfl, ho1.mono (by simp), bt ((Below.refl _ _).alloc (Nat.le_refl _) _) hb1, hl1⟩
/-- a number, a word, an error's number -/
def GNW (w : World) (x L r : Nat) (er : Int) (e : Ending) (w' : World) : Prop :=
  ∃ A n c, e = .returned (.tuple #[.slice A n c, .int .u64 (r : Int), .int .i64 er]) ∧ Own .u64 41 w.heap.size w' A n c (dg W x) ∧ Below w.heap.size w w' ∧ n ≤ L
theorem word_any {v : Value} {x y L : Nat} {y' : Int} {w : World} (h : Num w v x L) (ey : y' = (y : Int)) (hy0 : 0 < y) (hy : y < W) (hL : L ≤ 1099511627776) : Calls Tryz.prog 146 #[v, .int .u64 y'] w (GNW w (x / y) L (x % y) 0) := by
  obtain ⟨A, n, c, xs, rfl, h1, h2, h3, h4⟩ := h
  have C := Lib.hid (divOne_any (w := w) h1 h2 ey hy0 hy (by omega))
  rw [h3] at C
  have hx : x < W ^ n := by rw [← h3, ← h1.len]; exact val_lt h2
  have HX : Hid (x / y < W ^ n) := Nat.lt_of_le_of_lt (Nat.div_le_self _ _) hx
  subst ey
  generalize x % y = r at *
  generalize x / y = q at *
  clear h1 h2 h3 hx hy hy0
  go_enter Tryz.func146, Tryz.ntmps146
  go_wp2_with fail
  refine C.out.mono ?_
  rintro e w1 ⟨A1, n1, c1, rfl, ho1, hb1⟩
  have hn1 : n1 ≤ n := by rw [← ho1.len, wds_length]; exact Nat.le_refl _
  go_wp2_with fail
  refine (nnorm_any (ho1.numv (L := n) (wds_all W_pos _ _) (by rw [val_wds, Nat.mod_eq_of_lt HX.out]) hn1) (by omega)).mono ?_
  rintro e w2 ⟨A2, n2, c2, rfl, ho2, hb2, hl2⟩
  go_wp2
  go_ret3
  exact ⟨_, _, _, rfl, ho2.mono hb1.size, bt hb1 hb2, by omega⟩

theorem dg_one {y : Nat} (h : (dg W y).length = 1) : nth (dg W y) 0 = y ∧ y < W := by
  have e := dg_val W_gt y
  have a := dg_all W_gt y
  match hd : dg W y, h with
  | [z], _ =>
    rw [hd] at e a
    simp [val] at e
    subst e
    exact ⟨by simp [nth], a.head⟩
set_option maxHeartbeats 1000000 in
theorem quo_less {v u : Value} {x y L K : Nat} {w : World} (h : Num w v x L) (h' : Num w u y K) (hxy : x < y) (hL : L ≤ 2147483648) (hK : K ≤ 2147483648) : Calls Tryz.prog 117 #[v, u] w (GN2E w (x / y) L (x % y) K 0) := by
  have HE : Hid (x / y = 0 ∧ x % y = x) := ⟨Nat.div_eq_of_lt hxy, Nat.mod_eq_of_lt hxy⟩
  rw [HE.out.1, HE.out.2]
  have H := Lib.hid h
  have H' := Lib.hid h'
  have HL : Hid ((dg W x).length ≤ K) := dgl (Nat.lt_trans hxy h'.lt)
  have HC : Hid (cmpN x y = -1) := by show _ = _; rw [cmpN, if_pos hxy]
  obtain ⟨_, _, _, _, rfl, _⟩ := id h
  obtain ⟨_, _, _, _, rfl, _⟩ := id h'
  have hy0 : 0 < y := by omega
  clear h h'
  go_enter Tryz.func117, Tryz.ntmps117
  go_wp2_with fail
  refine (nnorm_any H.out (by omega)).mono ?_
  rintro e w1 ⟨A_x, n_x, c_x, rfl, o_x, hb1, l_x⟩
  go_wp2_with fail
  refine (nnorm_any (H'.out.below hb1) (by omega)).mono ?_
  rintro e w2 ⟨A_y, n_y, c_y, rfl, o_y, hb2, l_y⟩
  have z : ¬ n_y = 0 := by
    intro e
    have h0 := o_y.len
    rw [e] at h0
    have := (dg_nil_iff W_gt).1 (List.eq_nil_of_length_eq_zero h0)
    omega
  have z1 : ((n_y : Int) == 0) = false := by rw [beq_eq_false_iff_ne]; omega
  go_wp2_with fail
  have C := Lib.hid (ncmp_any (w := w2) ((o_x.num l_x).below hb2) (o_y.num l_y) (by omega) (by omega))
  rw [HC.out] at C
  refine C.out.mono ?_
  rintro e w' ⟨rfl, rfl⟩
  go_wp2
  go_ret3
  exact ⟨_, _, _, _, _, _, rfl, Own.nilx (dg_zero W_gt), (o_x.below hb2), (bt hb1 hb2), Nat.zero_le _, by have := HL.out; rwa [o_x.len] at this⟩
set_option maxHeartbeats 1000000 in
theorem quo_word {v u : Value} {x y L K : Nat} {w : World} (h : Num w v x L) (h' : Num w u y K) (hy0 : 0 < y) (hyx : y ≤ x) (hy : y < W) (hL : L ≤ 2147483648) (hK : K ≤ 2147483648) : Calls Tryz.prog 117 #[v, u] w (GN2E w (x / y) L (x % y) K 0) := by
  have HW := Lib.hid hy
  clear hy
  have HC : Hid (cmpN x y = 0 ∨ cmpN x y = 1) := by
    show _ ∨ _
    rw [cmpN, if_neg (by omega)]
    by_cases h0 : y < x
    · rw [if_pos h0]; exact .inr rfl
    · rw [if_neg h0]; exact .inl rfl
  have H := Lib.hid h
  have H' := Lib.hid h'
  obtain ⟨_, _, _, _, rfl, _⟩ := id h
  obtain ⟨_, _, _, _, rfl, _⟩ := id h'
  clear h h'
  have HQ := Lib.hid (And.intro hy0 hyx)
  clear hy0 hyx
  go_enter Tryz.func117, Tryz.ntmps117
  go_wp2_with fail
  refine (nnorm_any H.out (by omega)).mono ?_
  rintro e w1 ⟨A_x, n_x, c_x, rfl, o_x, hb1, l_x⟩
  go_wp2_with fail
  refine (nnorm_any (H'.out.below hb1) (by omega)).mono ?_
  rintro e w2 ⟨A_y, n_y, c_y, rfl, o_y, hb2, l_y⟩
  have HLN : Hid ((dg W y).length = n_y) := o_y.len
  have z : n_y = 1 := by
    have h1 : (dg W y).length ≤ 1 := dgl (by simpa using HW.out)
    have h2 : (dg W y).length ≠ 0 := fun e => by have := (dg_nil_iff W_gt).1 (List.eq_nil_of_length_eq_zero e); have := HQ.out.1; omega
    rw [← HLN.out]; omega
  subst z
  obtain ⟨g, rfl, _, _⟩ := o_y.form (by omega)
  have hc := (o_y.mono hb1.size).cell (i := 0) (by omega)
  rw [(dg_one HLN.out).1] at hc
  go_wp2_with fail
  have C := Lib.hid (ncmp_any (w := w2) ((o_x.num l_x).below hb2) (o_y.num l_y) (by omega) (by omega))
  rcases HC.out with HC' | HC'
  · have HC'' := Lib.hid HC'
    clear HC'
    rw [HC''.out] at C
    refine C.out.mono ?_
    rintro e w' ⟨rfl, rfl⟩
    go_wp2_with fail
    refine (word_any ((o_x.num l_x).below hb2) rfl HQ.out.1 HW.out (by omega)).mono ?_
    rintro e w3 ⟨A_q, n_q, c_q, rfl, o_q, hb3, l_q⟩
    go_wp2_with fail
    refine (nof_any rfl (Nat.lt_trans (Nat.mod_lt x HQ.out.1) HW.out)).mono ?_
    rintro e w4 ⟨A_r, n_r, c_r, rfl, o_r, hb4, l_r⟩
    go_wp2
    go_ret3
    exact ⟨_, _, _, _, _, _, rfl, ((o_q.mono (bt hb1 hb2).size).below hb4), (o_r.mono (bt (bt hb1 hb2) hb3).size), (bt (bt (bt hb1 hb2) hb3) hb4), by omega, by omega⟩
  · have HC'' := Lib.hid HC'
    clear HC'
    rw [HC''.out] at C
    refine C.out.mono ?_
    rintro e w' ⟨rfl, rfl⟩
    go_wp2_with fail
    refine (word_any ((o_x.num l_x).below hb2) rfl HQ.out.1 HW.out (by omega)).mono ?_
    rintro e w5 ⟨A_q, n_q, c_q, rfl, o_q, hb5, l_q⟩
    go_wp2_with fail
    refine (nof_any rfl (Nat.lt_trans (Nat.mod_lt x HQ.out.1) HW.out)).mono ?_
    rintro e w6 ⟨A_r, n_r, c_r, rfl, o_r, hb6, l_r⟩
    go_wp2
    go_ret3
    exact ⟨_, _, _, _, _, _, rfl, ((o_q.mono (bt hb1 hb2).size).below hb6), (o_r.mono (bt (bt hb1 hb2) hb5).size), (bt (bt (bt hb1 hb2) hb5) hb6), by omega, by omega⟩
set_option maxHeartbeats 1000000 in
theorem quo_great {v u : Value} {x y L K : Nat} {w : World} (h : Num w v x L) (h' : Num w u y K) (hyx : y ≤ x) (hy : W ≤ y) (hL : L ≤ 2147483648) (hK : K ≤ 2147483648) : Calls Tryz.prog 117 #[v, u] w (GN2E w (x / y) L (x % y) K 0) := by
  have hy0 : 0 < y := Nat.lt_of_lt_of_le W_pos hy
  have HW := Lib.hid hy
  clear hy
  have HC : Hid (cmpN x y = 0 ∨ cmpN x y = 1) := by
    show _ ∨ _
    rw [cmpN, if_neg (by omega)]
    by_cases h0 : y < x
    · rw [if_pos h0]; exact .inr rfl
    · rw [if_neg h0]; exact .inl rfl
  have H := Lib.hid h
  have H' := Lib.hid h'
  obtain ⟨_, _, _, _, rfl, _⟩ := id h
  obtain ⟨_, _, _, _, rfl, _⟩ := id h'
  clear h h'
  have HQ := Lib.hid (And.intro hy0 hyx)
  clear hy0 hyx
  go_enter Tryz.func117, Tryz.ntmps117
  go_wp2_with fail
  refine (nnorm_any H.out (by omega)).mono ?_
  rintro e w1 ⟨A_x, n_x, c_x, rfl, o_x, hb1, l_x⟩
  go_wp2_with fail
  refine (nnorm_any (H'.out.below hb1) (by omega)).mono ?_
  rintro e w2 ⟨A_y, n_y, c_y, rfl, o_y, hb2, l_y⟩
  have HLN : Hid ((dg W y).length = n_y) := o_y.len
  have z : 2 ≤ n_y := by
    have h1 := val_lt (dg_all W_gt y)
    rw [dg_val W_gt, HLN.out] at h1
    have h2 := HW.out
    rcases Nat.lt_or_ge n_y 2 with h3 | h3
    · have : W ^ n_y ≤ W ^ 1 := Nat.pow_le_pow_right W_pos (by omega)
      rw [Nat.pow_one] at this
      omega
    · exact h3
  have z0 : ((n_y : Int) == 0) = false := by rw [beq_eq_false_iff_ne]; omega
  have z1 : ((n_y : Int) == 1) = false := by rw [beq_eq_false_iff_ne]; omega
  go_wp2_with fail
  have C := Lib.hid (ncmp_any (w := w2) ((o_x.num l_x).below hb2) (o_y.num l_y) (by omega) (by omega))
  rcases HC.out with HC' | HC'
  · have HC'' := Lib.hid HC'
    clear HC'
    rw [HC''.out] at C
    refine C.out.mono ?_
    rintro e w' ⟨rfl, rfl⟩
    go_wp2_with fail
    refine (knuth_any (o_x.rd.below hb2) o_y.rd z HQ.out.2 (by omega)).mono ?_
    rintro e w3 ⟨A_q, n_q, c_q, A_r, n_r, c_r, rfl, o_q, o_r, hb3, l_q, l_r⟩
    go_wp2
    go_ret3
    exact ⟨_, _, _, _, _, _, rfl, (o_q.mono (bt hb1 hb2).size), (o_r.mono (bt hb1 hb2).size), (bt (bt hb1 hb2) hb3), by omega, by omega⟩
  · have HC'' := Lib.hid HC'
    clear HC'
    rw [HC''.out] at C
    refine C.out.mono ?_
    rintro e w' ⟨rfl, rfl⟩
    go_wp2_with fail
    refine (knuth_any (o_x.rd.below hb2) o_y.rd z HQ.out.2 (by omega)).mono ?_
    rintro e w4 ⟨A_q, n_q, c_q, A_r, n_r, c_r, rfl, o_q, o_r, hb4, l_q, l_r⟩
    go_wp2
    go_ret3
    exact ⟨_, _, _, _, _, _, rfl, (o_q.mono (bt hb1 hb2).size), (o_r.mono (bt hb1 hb2).size), (bt (bt hb1 hb2) hb4), by omega, by omega⟩
theorem quo_any {v u : Value} {x y L K : Nat} {w : World} (h : Num w v x L) (h' : Num w u y K) (hy0 : 0 < y) (hL : L ≤ 2147483648) (hK : K ≤ 2147483648) : Calls Tryz.prog 117 #[v, u] w (GN2E w (x / y) L (x % y) K 0) := by
  rcases Nat.lt_or_ge x y with h1 | h1
  · exact quo_less h h' h1 hL hK
  · rcases Nat.lt_or_ge y W with h2 | h2
    · exact quo_word h h' hy0 h1 h2 hL hK
    · exact quo_great h h' h1 h2 hL hK
end Go.Proofs.YtamfhmmcnlollaaGreat
namespace Go.Proofs.YtamfhmmcnlollaaGreat
open Go.RowKit
set_option linter.unusedVariables false

theorem mod_any {v u : Value} {x y L K : Nat} {w : World} (h : Num w v x L) (h' : Num w u y K) (hy0 : 0 < y) (hL : L ≤ 2147483648) (hK : K ≤ 2147483648) : Calls Tryz.prog 130 #[v, u] w (GNE w (x % y) K 0) := by
  have C := Lib.hid (quo_any (w := w) h h' hy0 hL hK)
  obtain ⟨_, _, _, _, rfl, _⟩ := id h
  obtain ⟨_, _, _, _, rfl, _⟩ := id h'
  clear h h'
  go_enter Tryz.func130, Tryz.ntmps130
  go_wp2_with fail
  refine (C.out).mono ?_
  rintro e w1 ⟨A_q, n_q, c_q, A_r, n_r, c_r, rfl, o_q, o_r, hb1, l_q, l_r⟩
  go_wp2
  go_ret2
  exact ⟨_, _, _, rfl, o_r, hb1, by omega⟩
theorem len_zero {n : Nat} {k : IntKind} {t : TypeId} {B c : Nat} {w : World} {A : Option Addr} {x : Nat} (h : Own k t B w A n c (dg W x)) (hx : x = 0) : n = 0 := by
  have := h.len
  rw [hx, dg_zero W_gt] at this
  exact this.symm
theorem len_pos {n : Nat} {k : IntKind} {t : TypeId} {B c : Nat} {w : World} {A : Option Addr} {x : Nat} (h : Own k t B w A n c (dg W x)) (hx : 0 < x) : 0 < n := by
  have h1 := h.len
  rcases Nat.eq_zero_or_pos n with h0 | h0
  · rw [h0] at h1
    have := (dg_nil_iff W_gt).1 (List.eq_nil_of_length_eq_zero h1)
    omega
  · exact h0
theorem exact_any {v u : Value} {x y L K : Nat} {w : World} (h : Num w v x L) (h' : Num w u y K) (hy0 : 0 < y) (he : x % y = 0) (hL : L ≤ 2147483648) (hK : K ≤ 2147483648) : Calls Tryz.prog 193 #[v, u] w (GNE w (x / y) L 0) := by
  have C := Lib.hid (quo_any (w := w) h h' hy0 hL hK)
  have HE := Lib.hid he
  obtain ⟨_, _, _, _, rfl, _⟩ := id h
  obtain ⟨_, _, _, _, rfl, _⟩ := id h'
  clear h h' he
  go_enter Tryz.func193, Tryz.ntmps193
  go_wp2_with fail
  refine (C.out).mono ?_
  rintro e w1 ⟨A_q, n_q, c_q, A_r, n_r, c_r, rfl, o_q, o_r, hb1, l_q, l_r⟩
  obtain rfl := len_zero o_r HE.out
  go_wp2
  go_ret2
  exact ⟨_, _, _, rfl, o_q, hb1, by omega⟩
end Go.Proofs.YtamfhmmcnlollaaGreat
