/-
  Walks: mul.cut, mul.lift, mul.product (school), mul.halves, mul.Mul, Square, MulAdd. Walks: mul.product, mul.Mul, Square, MulAdd, Times.
-/
import Derived.Test.YtamfhmmcnlollaaGreatNat
namespace Go.Proofs.YtamfhmmcnlollaaGreat
open Go.RowKit
set_option linter.unusedVariables false

theorem run_min2 {P : Program} (ts : Array TypeId) (t : TypeId) (n m : Nat) (w : World) : (Builtin.min_ ts t #[.int .i64 (n : Int), .int .i64 (m : Int)]).run P w = .ok (.int .i64 ((min n m : Nat) : Int)) w := by
  rw [run_min_int2]
  congr 2
  split <;> omega

/-- two new numbers in their own form -/
def GN2 (w : World) (x L y M : Nat) (e : Ending) (w' : World) : Prop :=
  ∃ A n c A2 n2 c2, e = .returned (.tuple #[.slice A n c, .slice A2 n2 c2]) ∧ Own .u64 41 w.heap.size w' A n c (dg W x) ∧ Own .u64 41 w.heap.size w' A2 n2 c2 (dg W y) ∧ Below w.heap.size w w' ∧ n ≤ L ∧ n2 ≤ M

theorem val_drop_eq {xs : List Nat} {k : Nat} (ha : All W xs) (hk : k ≤ xs.length) : val W (xs.drop k) = val W xs / W ^ k ∧ val W (xs.take k) = val W xs % W ^ k := by
  have h := val_append (b := W) (xs.take k) (xs.drop k)
  rw [List.take_append_drop, List.length_take, Nat.min_eq_left hk] at h
  have l := val_lt (ha.take k)
  rw [List.length_take, Nat.min_eq_left hk] at l
  rw [h]
  refine ⟨?_, ?_⟩
  · rw [Nat.add_mul_div_left _ _ (Nat.pow_pos W_pos), Nat.div_eq_of_lt l, Nat.zero_add]
  · rw [Nat.add_mul_mod_self_left, Nat.mod_eq_of_lt l]
theorem val_cut {xs : List Nat} {n : Nat} (ha : All W xs) : val W (xs.drop (min n xs.length)) = val W xs / W ^ n ∧ val W (xs.take (min n xs.length)) = val W xs % W ^ n := by
  by_cases h : n ≤ xs.length
  · rw [Nat.min_eq_left h]; exact val_drop_eq ha h
  · rw [Nat.min_eq_right (by omega), List.drop_length, List.take_length]
    have l : val W xs < W ^ n := Nat.lt_of_lt_of_le (val_lt ha) (Nat.pow_le_pow_right W_pos (by omega))
    rw [Nat.div_eq_of_lt l, Nat.mod_eq_of_lt l]
    exact ⟨rfl, rfl⟩

set_option maxHeartbeats 1000000 in
theorem cut_any {v : Value} {x L n : Nat} {n' : Int} {w : World} (h : Num w v x L) (hn : n' = (n : Int)) (hL : L ≤ 1099511627776) :
    Calls Tryz.prog 180 #[v, .int .i64 n'] w (GN2 w (x / W ^ n) (L - n) (x % W ^ n) (min n L)) := by
  subst hn
  obtain ⟨A, l, c, xs, rfl, h1, h2, h3, h4⟩ := h
  have hmn := fun (ts : Array TypeId) (t : TypeId) => run_min2 (P := Tryz.prog) ts t n l w
  have hv := val_cut (n := n) h2
  rw [h1.len, h3] at hv
  obtain ⟨k, hk⟩ : ∃ k, k = min n l := ⟨_, rfl⟩
  rw [← hk] at hmn hv
  have hkl : k ≤ l := by omega
  have hkL : k ≤ min n L := by omega
  have hlk : l - k ≤ L - n := by omega
  have hc := h1.cap
  have R1 := Lib.hid (h1.from_ hkl)
  have R2 := Lib.hid (h1.upto hkl)
  have N1 := Lib.hid (R1.out.num (h2.drop k) hlk)
  have N2 := Lib.hid (R2.out.num (h2.take k) hkL)
  rw [hv.1] at N1
  rw [hv.2] at N2
  have HL1 : Hid (L - n ≤ 1099511627776) := by show _ ≤ _; omega
  have HL2 : Hid (min n L ≤ 1099511627776) := by show _ ≤ _; omega
  clear h1 h2 h3 h4 hk hv R1 R2 hL hkL hlk
  have i1 : (0 : Int) ≤ (k : Int) := by omega
  have i2 : (k : Int) ≤ (l : Int) := by omega
  have i3 : (k : Int) ≤ (c : Int) := by omega
  go_enter Tryz.func180, Tryz.ntmps180
  go_wp2
  clear hmn
  refine wp_region_grow none [(true, 0), (true, 1), (true, 2), (true, 4), (true, 5), (true, 6), (false, 3), (false, 7), (true, 8), (true, 9)] (by kernel_rfl) (by kernel_rfl) ?_
  repeat (refine ord_pas (by rfl) (fun K hK => ?_); go_simp; refine hK _ _ (fun w' hw' => (by first | (go_simp; done) | (go_simp; intro hh; cases hh))) ?_; clear hK K)
  (refine ord_call (by rfl) (fun K hK => ?_); go_simp; refine hK _ _ ?_; clear hK K)
  generalize (if c = k then A else Option.map (fun x => x.add k) A) = A0 at N1 ⊢
  refine (nnorm_any N1.out.drew HL1.out).mono ?_
  rintro e w1 ⟨A1, n1, c1, rfl, ho1, hb1, hl1⟩
  refine ⟨_, rfl, Grow.of_below hb1, ?_⟩
  (refine ord_norm (fun K hK => ?_); go_simp; refine hK _ ?_; clear hK K)
  (refine ord_call (by rfl) (fun K hK => ?_); go_simp; refine hK _ _ ?_; clear hK K)
  refine (nnorm_any (N2.out.drew.below hb1) HL2.out).mono ?_
  rintro e w2 ⟨A2, n2, c2, rfl, ho2, hb2, hl2⟩
  refine ⟨_, rfl, Grow.of_below hb2, ?_⟩
  (refine ord_norm (fun K hK => ?_); go_simp; refine hK _ ?_; clear hK K)
  repeat (refine ord_pas (by rfl) (fun K hK => ?_); go_simp; refine hK _ _ (fun w' hw' => (by first | (go_simp; done) | (go_simp; intro hh; cases hh))) ?_; clear hK K)
  refine ord_nil ?_
  go_wp2
  go_ret2
  exact ⟨A1, n1, c1, A2, n2, c2, rfl, ho1.below hb2, ho2.mono hb1.size, bt (bd hb1) hb2, hl1, hl2⟩

set_option maxHeartbeats 1000000 in
theorem lift_any {v : Value} {x L n : Nat} {n' : Int} {w : World} (h : Num w v x L) (hn : n' = (n : Int)) (hL : L ≤ 549755813888) (hn2 : n ≤ 549755813888) :
    Calls Tryz.prog 181 #[v, .int .i64 n'] w (GV w (x * W ^ n) (L + n)) := by
  subst hn
  obtain ⟨A, l, c, xs, rfl, h1, h2, h3, h4⟩ := h
  have H1 := Lib.hid h1
  have HE := Lib.hid elN
  have H := Lib.hid (And.intro h2 (And.intro h3 (And.intro h4 (And.intro hL hn2))))
  clear h2 h3 h4 hn2 hL
  by_cases hl : l = 0
  · subst hl
    go_enter Tryz.func181, Tryz.ntmps181
    go_wp2
    go_ret
    have hx : x = 0 := by
      have := H.out.2.1
      rw [List.eq_nil_of_length_eq_zero h1.len] at this
      exact this.symm
    refine ⟨none, 0, 0, [], rfl, Own.nil, All.nil, by rw [hx]; simp [val], Below.refl _ _, Nat.zero_le _⟩
  · have hne : ((l : Int) == 0) = false := by rw [beq_eq_false_iff_ne]; omega
    clear hl h1
    go_enter Tryz.func181, Tryz.ntmps181
    go_wp2_with (first
      | (at_make; refine wpList_mk rfl (.tmp 8) (.tmp 8) rfl HE.out w.heap.size n rfl rfl rfl rfl (by have := H.out; omega) (Nat.le_refl _) ?_; intro w1 ho1 hg1 hb1)
      | (at_builtin; (refine wpList_app rfl (.tmp 9) (.tmp 10) rfl HE.out (t := 41) (k := .u64) (B := w.heap.size) (xs := List.replicate n 0) (ys := xs) rfl rfl ho1 (H1.out.below hb1) (by have := H.out; omega) hb1.size ?_); intro A2 c2 w2 ho2 hb2 _ _))
    go_ret
    obtain ⟨h2, h3, h4, h5, h6⟩ := H.out
    refine ⟨A2, _, c2, _, rfl, ho2, (All.replicate W_pos).append h2, ?_, hb1.trans hb2, by omega⟩
    rw [val_append, val_replicate, h3, List.length_replicate, Nat.zero_add, Nat.mul_comm]

/-- the product of numbers of at most M limbs -/
def ProdSaid (M : Nat) : Prop := ∀ (w : World) (v u : Value) (x y L K : Nat), Num w v x L → Num w u y K → L ≤ M → K ≤ M →
  Calls Tryz.prog 128 #[v, u] w (GN w (x * y) (L + K))

theorem halves_law (x y B : Nat) (hB : 0 < B) : (x / B * (y / B) * (B * B) + ((x / B + x % B) * (y / B + y % B) - (x / B * (y / B) + x % B * (y % B))) * B) + x % B * (y % B) = x * y := by
  have e1 := Nat.div_add_mod x B
  have e2 := Nat.div_add_mod y B
  generalize x / B = x1 at *
  generalize x % B = x0 at *
  generalize y / B = y1 at *
  generalize y % B = y0 at *
  subst e1 e2
  have e3 : (x1 + x0) * (y1 + y0) - (x1 * y1 + x0 * y0) = x1 * y0 + x0 * y1 := by
    rw [Nat.add_mul, Nat.mul_add, Nat.mul_add]; omega
  rw [e3]
  simp only [Nat.add_mul, Nat.mul_add]
  have a1 : x1 * y1 * (B * B) = B * x1 * (B * y1) := by
    rw [Nat.mul_comm B x1, Nat.mul_comm B y1, Nat.mul_mul_mul_comm]
  have a2 : x1 * y0 * B = B * x1 * y0 := by rw [Nat.mul_comm B x1, Nat.mul_assoc, Nat.mul_assoc, Nat.mul_comm y0 B]
  have a3 : x0 * y1 * B = x0 * (B * y1) := by rw [Nat.mul_assoc, Nat.mul_comm y1 B]
  omega
theorem halves_le (x y B : Nat) : x / B * (y / B) + x % B * (y % B) ≤ (x / B + x % B) * (y / B + y % B) := by
  rw [Nat.add_mul, Nat.mul_add, Nat.mul_add]; omega

set_option maxHeartbeats 1000000 in
theorem halves_of (M : Nat) (ih : ∀ M', M' < M → ProdSaid M') (hM : M ≤ 137438953472) {A A2 : Option Addr} {n c m c2 x y : Nat} {w : World} (h : Num w (.slice A n c) x n) (h' : Num w (.slice A2 m c2) y m) (hnm : n ≤ m) (h40 : 40 ≤ n) (hmM : m ≤ M) :
    Calls Tryz.prog 158 #[.slice A n c, .slice A2 m c2] w (GN w (x * y) (n + m)) := by
  have H := Lib.hid h
  have H' := Lib.hid h'
  obtain ⟨k, hk⟩ : ∃ k : Nat, k = (m + 1) / 2 := ⟨_, rfl⟩
  have hk1 : 2 * k ≤ m + 1 := by omega
  have hk2 : m ≤ 2 * k := by omega
  have HK : Hid (((m : Int) + 1) / 2 = (k : Int)) := by show _ = _; omega
  have IH : Hid (ProdSaid (k + 1)) := ih (k + 1) (by omega)
  have HL := Lib.hid (halves_law x y (W ^ k) (Nat.pow_pos W_pos))
  have HLE := Lib.hid (halves_le x y (W ^ k))
  have HR : Hid (x * y < W ^ (n + m)) := lt_mul h.lt h'.lt
  clear h h' hk ih
  go_enter Tryz.func158, Tryz.ntmps158
  go_wp2_with fail
  rw [HK.out]
  go_wp2_with fail
  refine (cut_any H.out rfl (by omega)).mono ?_
  rintro e w1 ⟨A_a1, n_a1, c_a1, A_a0, n_a0, c_a0, rfl, o_a1, o_a0, hb1, l_a1, l_a0⟩
  go_wp2_with fail
  refine (cut_any (H'.out.below hb1) rfl (by omega)).mono ?_
  rintro e w2 ⟨A_b1, n_b1, c_b1, A_b0, n_b0, c_b0, rfl, o_b1, o_b0, hb2, l_b1, l_b0⟩
  go_wp2_with fail
  refine (IH.out _ _ _ _ _ _ _ ((o_a1.num l_a1).below hb2) (o_b1.num l_b1) (by omega) (by omega)).mono ?_
  rintro e w3 ⟨A_hi, n_hi, c_hi, rfl, o_hi, hb3, l_hi⟩
  go_wp2_with fail
  refine (IH.out _ _ _ _ _ _ _ (((o_a0.num l_a0).below hb2).below hb3) ((o_b0.num l_b0).below hb3) (by omega) (by omega)).mono ?_
  rintro e w4 ⟨A_lo, n_lo, c_lo, rfl, o_lo, hb4, l_lo⟩
  go_wp2_with fail
  refine (nadd_any ((((o_a1.num l_a1).below hb2).below hb3).below hb4) ((((o_a0.num l_a0).below hb2).below hb3).below hb4) (by omega) (by omega)).mono ?_
  rintro e w5 ⟨A_sa, n_sa, c_sa, rfl, o_sa, hb5, l_sa⟩
  go_wp2_with fail
  refine (nadd_any ((((o_b1.num l_b1).below hb3).below hb4).below hb5) ((((o_b0.num l_b0).below hb3).below hb4).below hb5) (by omega) (by omega)).mono ?_
  rintro e w6 ⟨A_sb, n_sb, c_sb, rfl, o_sb, hb6, l_sb⟩
  go_wp2_with fail
  refine (IH.out _ _ _ _ _ _ _ ((o_sa.num l_sa).below hb6) (o_sb.num l_sb) (by omega) (by omega)).mono ?_
  rintro e w7 ⟨A_pr, n_pr, c_pr, rfl, o_pr, hb7, l_pr⟩
  go_wp2_with fail
  refine (nadd_any (((((o_hi.num l_hi).below hb4).below hb5).below hb6).below hb7) ((((o_lo.num l_lo).below hb5).below hb6).below hb7) (by omega) (by omega)).mono ?_
  rintro e w8 ⟨A_hl, n_hl, c_hl, rfl, o_hl, hb8, l_hl⟩
  go_wp2_with fail
  refine (nsubE_any ((o_pr.num l_pr).below hb8) (o_hl.num l_hl) (by omega) (by omega) HLE.out).mono ?_
  rintro e w9 ⟨A_mid, n_mid, c_mid, rfl, o_mid, hb9, l_mid⟩
  go_wp2_with fail
  refine (lift_any (((((((o_hi.num l_hi).below hb4).below hb5).below hb6).below hb7).below hb8).below hb9) (n := 2 * k) (by omega) (by omega) (by omega)).mono ?_
  rintro e w10 ⟨A_u2, n_u2, c_u2, xs_u2, rfl, o_u2, a_u2, v_u2, hb10, l_u2⟩
  have V_u2 := Lib.hid v_u2
  clear v_u2
  go_wp2_with fail
  refine (lift_any ((o_mid.num l_mid).below hb10) rfl (by omega) (by omega)).mono ?_
  rintro e w11 ⟨A_u1, n_u1, c_u1, xs_u1, rfl, o_u1, a_u1, v_u1, hb11, l_u1⟩
  have V_u1 := Lib.hid v_u1
  clear v_u1
  go_wp2_with fail
  refine (nadd_any ((o_u2.numv a_u2 V_u2.out l_u2).below hb11) (o_u1.numv a_u1 V_u1.out l_u1) (by omega) (by omega)).mono ?_
  rintro e w12 ⟨A_s1, n_s1, c_s1, rfl, o_s1, hb12, l_s1⟩
  go_wp2_with fail
  refine (nadd_any (o_s1.num l_s1) (((((((((o_lo.num l_lo).below hb5).below hb6).below hb7).below hb8).below hb9).below hb10).below hb11).below hb12) (by omega) (by omega)).mono ?_
  rintro e w13 ⟨A_s2, n_s2, c_s2, rfl, o_s2, hb13, l_s2⟩
  go_wp2
  go_ret
  have e : (x / W ^ k * (y / W ^ k) * W ^ (2 * k) + ((x / W ^ k + x % W ^ k) * (y / W ^ k + y % W ^ k) - (x / W ^ k * (y / W ^ k) + x % W ^ k * (y % W ^ k))) * W ^ k) + x % W ^ k * (y % W ^ k) = x * y := by
    rw [Nat.two_mul, Nat.pow_add]; exact HL.out
  have ow := (o_s2.mono (bt (bt (bt (bt (bt (bt (bt (bt (bt (bt (bt hb1 hb2) hb3) hb4) hb5) hb6) hb7) hb8) hb9) hb10) hb11) hb12).size)
  rw [e] at ow
  refine ⟨_, _, _, rfl, ow, ?_, ?_⟩
  rotate_left
  · rw [← ow.len]
    exact dgl HR.out
  exact (bt (bt (bt (bt (bt (bt (bt (bt (bt (bt (bt (bt hb1 hb2) hb3) hb4) hb5) hb6) hb7) hb8) hb9) hb10) hb11) hb12) hb13)
end Go.Proofs.YtamfhmmcnlollaaGreat
namespace Go.Proofs.YtamfhmmcnlollaaGreat
open Go.RowKit
set_option linter.unusedVariables false

theorem val_set {xs : List Nat} {k x : Nat} (h : k < xs.length) : val W (xs.set k x) + W ^ k * nth xs k = val W xs + W ^ k * x := by
  induction xs generalizing k with
  | nil => simp at h
  | cons y ys ih =>
    cases k with
    | zero => simp [val, nth]; omega
    | succ k =>
      have := ih (k := k) (by simpa using h)
      simp only [List.set_cons_succ, val, nth, List.getElem?_cons_succ] at this ⊢
      rw [Nat.pow_succ]
      have e1 : W ^ k * W * (ys[k]?.getD 0) = W * (W ^ k * (ys[k]?.getD 0)) := by rw [Nat.mul_comm (W ^ k) W, Nat.mul_assoc]
      have e2 : W ^ k * W * x = W * (W ^ k * x) := by rw [Nat.mul_comm (W ^ k) W, Nat.mul_assoc]
      have e3 : W * (val W (ys.set k x) + W ^ k * ys[k]?.getD 0) = W * (val W ys + W ^ k * x) := by rw [this]
      rw [Nat.mul_add, Nat.mul_add] at e3
      omega
theorem nth_set_ne {xs : List Nat} {k j x : Nat} (h : k ≠ j) : nth (xs.set k x) j = nth xs j := by
  simp [nth, List.getElem?_set_ne h]

def SchI (xs ys : List Nat) (N i : Nat) (outs : List Nat) : Prop :=
  All W outs ∧ outs.length = N ∧ val W outs = val W (xs.take i) * val W ys ∧ ∀ j, i + ys.length ≤ j → nth outs j = 0
def SchJ (xs ys : List Nat) (N i j c : Nat) (outs : List Nat) : Prop :=
  All W outs ∧ outs.length = N ∧ c < W ∧ val W outs + W ^ (i + j) * c = val W (xs.take i) * val W ys + W ^ i * nth xs i * val W (ys.take j) ∧ ∀ l, i + ys.length ≤ l → nth outs l = 0
section
variable {xs ys outs : List Nat} {N i j c : Nat}
theorem SchI.enter (h : SchI xs ys N i outs) : SchJ xs ys N i 0 0 outs := by
  obtain ⟨h1, h2, h3, h4⟩ := h
  exact ⟨h1, h2, by decide, by simp [val, h3], h4⟩
theorem SchJ.step (h : SchJ xs ys N i j c outs) (hx : All W xs) (hy : All W ys) (hj : j < ys.length) (hN : i + ys.length < N) :
    SchJ xs ys N i (j + 1) (hi (nth ys j * nth xs i + c + nth outs (i + j))) (outs.set (i + j) (lo (nth ys j * nth xs i + c + nth outs (i + j)))) := by
  obtain ⟨h1, h2, h3, h4, h5⟩ := h
  have e1 := lo_hi (nth ys j * nth xs i + c + nth outs (i + j))
  have hh := (mul_words (nth ys j) (nth xs i) c (nth outs (i + j)) (hy.nth W_pos j) (hx.nth W_pos i) h3 (h1.nth W_pos _)).2.2
  have hs := val_set (xs := outs) (k := i + j) (x := lo (nth ys j * nth xs i + c + nth outs (i + j))) (by omega)
  refine ⟨h1.set (lo_lt _) _, by simpa using h2, hh, ?_, ?_⟩
  · rw [val_take_succ' ys j, Nat.mul_add]
    generalize lo (nth ys j * nth xs i + c + nth outs (i + j)) = l at *
    generalize hi (nth ys j * nth xs i + c + nth outs (i + j)) = g at *
    have e2 : W ^ (i + j) * l + W ^ (i + (j + 1)) * g = W ^ (i + j) * (nth ys j * nth xs i) + W ^ (i + j) * c + W ^ (i + j) * nth outs (i + j) := by
      rw [show i + (j + 1) = (i + j) + 1 from rfl, Nat.pow_succ, Nat.mul_assoc, ← Nat.mul_add, e1, Nat.mul_add, Nat.mul_add]
    have e3 : W ^ i * nth xs i * (W ^ j * nth ys j) = W ^ (i + j) * (nth ys j * nth xs i) := by
      rw [Nat.mul_mul_mul_comm, ← Nat.pow_add, Nat.mul_comm (nth xs i)]
    omega
  · intro l hl
    rw [nth_set_ne (by omega)]; exact h5 l hl
theorem SchJ.leave (h : SchJ xs ys N i ys.length c outs) (hi : i < xs.length) (hN : i + ys.length < N) : SchI xs ys N (i + 1) (outs.set (i + ys.length) c) := by
  obtain ⟨h1, h2, h3, h4, h5⟩ := h
  have hs := val_set (xs := outs) (k := i + ys.length) (x := c) (by omega)
  rw [h5 _ (Nat.le_refl _), Nat.mul_zero, Nat.add_zero] at hs
  refine ⟨h1.set h3 _, by simpa using h2, ?_, ?_⟩
  · rw [hs, h4, List.take_length, val_take_succ' xs i, Nat.add_mul]
  · intro l hl
    rw [nth_set_ne (by omega)]; exact h5 l (by omega)
end

set_option maxHeartbeats 2000000 in
set_option maxRecDepth 100000 in
theorem school_le {b1 o1 b2 o2 n c m c2 : Nat} {xs ys : List Nat} {w : World} (h : Rd .u64 w (some ⟨b1, o1, none⟩) n c xs) (h' : Rd .u64 w (some ⟨b2, o2, none⟩) m c2 ys) (hx : All W xs) (hy : All W ys) (hnm : n ≤ m) (hm : m ≤ 137438953472) (h0 : 0 < n) (h40 : n < 40) :
    Calls Tryz.prog 128 #[.slice (some ⟨b1, o1, none⟩) n c, .slice (some ⟨b2, o2, none⟩) m c2] w (GN w (val W xs * val W ys) (n + m)) := by
  have H := Lib.hid h
  have H' := Lib.hid h'
  have HX := Lib.hid hx
  have HY := Lib.hid hy
  have HE := Lib.hid elN
  have q1 : ((n : Int) == 0) = false := by rw [beq_eq_false_iff_ne]; omega
  clear h h' hx hy
  have hb1 := H.out.lt (i := 0) h0
  have hb2 := H'.out.lt (i := 0) (by omega)
  go_enter Tryz.func128, Tryz.ntmps128
  go_wp2_with (at_make; refine wpList_mk rfl (.tmp 33) (.tmp 33) rfl HE.out w.heap.size (n + m) rfl rfl (by simp) (by simp) (by omega) (Nat.le_refl _) ?_; intro w1 ho1 hg1 hbl1)
  have HO : Hid (SchI xs ys (n + m) 0 (List.replicate (n + m) 0) ∧ Own .u64 41 w.heap.size w1 (some ⟨w.heap.size, 0, none⟩) (n + m) (n + m) (List.replicate (n + m) 0) ∧ Below w.heap.size w w1) :=
    ⟨⟨All.replicate W_pos, List.length_replicate, by simp [val, val_replicate], fun j hj => by simp [nth, List.getElem?_replicate]; split <;> rfl⟩, ho1, hbl1⟩
  clear ho1 hbl1 hg1
  go_loopw [37] (fun i wr => ∃ (k : Nat) (outs : List Nat), Hid (SchI xs ys (n + m) k outs ∧ Own .u64 41 w.heap.size wr (some ⟨w.heap.size, 0, none⟩) (n + m) (n + m) outs ∧ Below w.heap.size w wr) ∧ k ≤ n ∧ i = .int .i64 k) (fun i _ => n - (intOf i).toNat)
  case atStart => exact ⟨0, _, HO, Nat.zero_le _, rfl⟩
  case round =>
    obtain ⟨k, outs, hI, hk, rfl⟩ := hrel
    obtain ⟨wo, rfl⟩ : ∃ wo : World, wo = wr := ⟨_, rfl⟩
    by_cases hlt : k < n
    · obtain ⟨b, off, e, hb, hca⟩ := (H.out.below hI.out.2.2).at hlt
      injection e with e; injection e with e1 e2
      subst e1 e2
      go_wp2
      go_loopw [8, 44] (fun cv j wr => ∃ (l cn : Nat) (outs : List Nat), Hid (SchJ xs ys (n + m) k l cn outs ∧ Own .u64 41 w.heap.size wr (some ⟨w.heap.size, 0, none⟩) (n + m) (n + m) outs ∧ Below w.heap.size w wr) ∧ l ≤ m ∧ cv = .int .u64 cn ∧ j = .int .i64 l) (fun _ j _ => m - (intOf j).toNat)
      case atStart => exact ⟨0, 0, outs, ⟨hI.out.1.enter, hI.out.2.1, hI.out.2.2⟩, Nat.zero_le _, rfl, rfl⟩
      case round =>
        obtain ⟨l, cn, outs1, hJ, hl, rfl, rfl⟩ := hrel
        by_cases hlt2 : l < m
        · obtain ⟨b, off, e, hb, hcb⟩ := (H'.out.below hJ.out.2.2).at hlt2
          injection e with e; injection e with e1 e2
          subst e1 e2
          have hcell := hJ.out.2.1.cell (i := k + l) (by omega)
          have hfr := hJ.out.2.1.frozen (i := k + l)
          have c1 := Lib.hid (mulW_any (nth ys l) (nth xs k) cn (nth outs1 (k + l)) wr (HY.out.nth W_pos l) (HX.out.nth W_pos k) hJ.out.1.2.2.1 (hJ.out.1.1.nth W_pos _) rfl rfl rfl rfl)
          go_wp2_with (go_at_call 159; refine c1.out.mono ?_; rintro e w' ⟨rfl, rfl⟩)
          go_roundw
          case rel =>
            exact ⟨l + 1, _, _, ⟨hJ.out.1.step HX.out HY.out (by rw [H'.out.len]; exact hlt2) (by rw [H'.out.len]; omega), hJ.out.2.1.stored, hJ.out.2.2.setCell (Nat.le_refl _) _⟩, by omega, rfl, by go_num⟩
          case measure => simp [intOf]; omega
        · obtain rfl : l = m := by omega
          have hcell := hJ.out.2.1.cell (i := k + l) (by omega)
          have hfr := hJ.out.2.1.frozen (i := k + l)
          go_wp2
          go_roundw
          case rel =>
            have e := H'.out.len
            have h1 := hJ.out.1
            subst e
            exact ⟨k + 1, _, ⟨h1.leave (by rw [H.out.len]; exact hlt) (by omega), hJ.out.2.1.stored, hJ.out.2.2.setCell (Nat.le_refl _) _⟩, by omega, by go_num⟩
          case measure => simp [intOf]; omega
    · obtain rfl : k = n := by omega
      have hN : Num wo (.slice (some ⟨w.heap.size, 0, none⟩) (k + m) (k + m)) (val W xs * val W ys) (k + m) :=
        hI.out.2.1.numv hI.out.1.1 (by have := hI.out.1.2.2.1; rw [List.take_of_length_le (by rw [H.out.len]; exact Nat.le_refl _)] at this; exact this) (Nat.le_refl _)
      have HN := Lib.hid hN
      clear hN
      go_wp2_with (go_at_call 157; refine (trimN_any HN.out (by omega)).mono ?_; rintro e w2 ⟨A2, n2, c2, rfl, ho2, hb2, hl2⟩)
      go_ret
      exact ⟨_, _, _, rfl, ho2.mono hI.out.2.2.size, bt hI.out.2.2 hb2, hl2⟩
set_option maxHeartbeats 2000000 in
set_option maxRecDepth 100000 in
theorem school_gt {b1 o1 b2 o2 n c m c2 : Nat} {xs ys : List Nat} {w : World} (h : Rd .u64 w (some ⟨b1, o1, none⟩) n c xs) (h' : Rd .u64 w (some ⟨b2, o2, none⟩) m c2 ys) (hx : All W xs) (hy : All W ys) (hnm : n < m) (hm : m ≤ 137438953472) (h0 : 0 < n) (h40 : n < 40) :
    Calls Tryz.prog 128 #[.slice (some ⟨b2, o2, none⟩) m c2, .slice (some ⟨b1, o1, none⟩) n c] w (GN w (val W xs * val W ys) (n + m)) := by
  have H := Lib.hid h
  have H' := Lib.hid h'
  have HX := Lib.hid hx
  have HY := Lib.hid hy
  have HE := Lib.hid elN
  have q1 : ((n : Int) == 0) = false := by rw [beq_eq_false_iff_ne]; omega
  clear h h' hx hy
  have hb1 := H.out.lt (i := 0) h0
  have hb2 := H'.out.lt (i := 0) (by omega)
  go_enter Tryz.func128, Tryz.ntmps128
  go_wp2_with (at_make; refine wpList_mk rfl (.tmp 33) (.tmp 33) rfl HE.out w.heap.size (n + m) rfl rfl (by simp) (by simp) (by omega) (Nat.le_refl _) ?_; intro w1 ho1 hg1 hbl1)
  have HO : Hid (SchI xs ys (n + m) 0 (List.replicate (n + m) 0) ∧ Own .u64 41 w.heap.size w1 (some ⟨w.heap.size, 0, none⟩) (n + m) (n + m) (List.replicate (n + m) 0) ∧ Below w.heap.size w w1) :=
    ⟨⟨All.replicate W_pos, List.length_replicate, by simp [val, val_replicate], fun j hj => by simp [nth, List.getElem?_replicate]; split <;> rfl⟩, ho1, hbl1⟩
  clear ho1 hbl1 hg1
  go_loopw [37] (fun i wr => ∃ (k : Nat) (outs : List Nat), Hid (SchI xs ys (n + m) k outs ∧ Own .u64 41 w.heap.size wr (some ⟨w.heap.size, 0, none⟩) (n + m) (n + m) outs ∧ Below w.heap.size w wr) ∧ k ≤ n ∧ i = .int .i64 k) (fun i _ => n - (intOf i).toNat)
  case atStart => exact ⟨0, _, HO, Nat.zero_le _, rfl⟩
  case round =>
    obtain ⟨k, outs, hI, hk, rfl⟩ := hrel
    obtain ⟨wo, rfl⟩ : ∃ wo : World, wo = wr := ⟨_, rfl⟩
    by_cases hlt : k < n
    · obtain ⟨b, off, e, hb, hca⟩ := (H.out.below hI.out.2.2).at hlt
      injection e with e; injection e with e1 e2
      subst e1 e2
      go_wp2
      go_loopw [8, 44] (fun cv j wr => ∃ (l cn : Nat) (outs : List Nat), Hid (SchJ xs ys (n + m) k l cn outs ∧ Own .u64 41 w.heap.size wr (some ⟨w.heap.size, 0, none⟩) (n + m) (n + m) outs ∧ Below w.heap.size w wr) ∧ l ≤ m ∧ cv = .int .u64 cn ∧ j = .int .i64 l) (fun _ j _ => m - (intOf j).toNat)
      case atStart => exact ⟨0, 0, outs, ⟨hI.out.1.enter, hI.out.2.1, hI.out.2.2⟩, Nat.zero_le _, rfl, rfl⟩
      case round =>
        obtain ⟨l, cn, outs1, hJ, hl, rfl, rfl⟩ := hrel
        by_cases hlt2 : l < m
        · obtain ⟨b, off, e, hb, hcb⟩ := (H'.out.below hJ.out.2.2).at hlt2
          injection e with e; injection e with e1 e2
          subst e1 e2
          have hcell := hJ.out.2.1.cell (i := k + l) (by omega)
          have hfr := hJ.out.2.1.frozen (i := k + l)
          have c1 := Lib.hid (mulW_any (nth ys l) (nth xs k) cn (nth outs1 (k + l)) wr (HY.out.nth W_pos l) (HX.out.nth W_pos k) hJ.out.1.2.2.1 (hJ.out.1.1.nth W_pos _) rfl rfl rfl rfl)
          go_wp2_with (go_at_call 159; refine c1.out.mono ?_; rintro e w' ⟨rfl, rfl⟩)
          go_roundw
          case rel =>
            exact ⟨l + 1, _, _, ⟨hJ.out.1.step HX.out HY.out (by rw [H'.out.len]; exact hlt2) (by rw [H'.out.len]; omega), hJ.out.2.1.stored, hJ.out.2.2.setCell (Nat.le_refl _) _⟩, by omega, rfl, by go_num⟩
          case measure => simp [intOf]; omega
        · obtain rfl : l = m := by omega
          have hcell := hJ.out.2.1.cell (i := k + l) (by omega)
          have hfr := hJ.out.2.1.frozen (i := k + l)
          go_wp2
          go_roundw
          case rel =>
            have e := H'.out.len
            have h1 := hJ.out.1
            subst e
            exact ⟨k + 1, _, ⟨h1.leave (by rw [H.out.len]; exact hlt) (by omega), hJ.out.2.1.stored, hJ.out.2.2.setCell (Nat.le_refl _) _⟩, by omega, by go_num⟩
          case measure => simp [intOf]; omega
    · obtain rfl : k = n := by omega
      have hN : Num wo (.slice (some ⟨w.heap.size, 0, none⟩) (k + m) (k + m)) (val W xs * val W ys) (k + m) :=
        hI.out.2.1.numv hI.out.1.1 (by have := hI.out.1.2.2.1; rw [List.take_of_length_le (by rw [H.out.len]; exact Nat.le_refl _)] at this; exact this) (Nat.le_refl _)
      have HN := Lib.hid hN
      clear hN
      go_wp2_with (go_at_call 157; refine (trimN_any HN.out (by omega)).mono ?_; rintro e w2 ⟨A2, n2, c2, rfl, ho2, hb2, hl2⟩)
      go_ret
      exact ⟨_, _, _, rfl, ho2.mono hI.out.2.2.size, bt hI.out.2.2 hb2, hl2⟩

set_option maxHeartbeats 1000000 in
theorem prod0_le {A A2 : Option Addr} {n c m c2 x : Nat} {w : World} (hn : n = 0) (hnm : n ≤ m) :
    Calls Tryz.prog 128 #[.slice A n c, .slice A2 m c2] w (GN w (0 * x) (n + m)) := by
  subst hn
  go_enter Tryz.func128, Tryz.ntmps128
  go_wp2
  go_ret
  exact ⟨none, 0, 0, rfl, Own.nilx (by rw [Nat.zero_mul, dg_zero W_gt]), Below.refl _ _, Nat.zero_le _⟩
set_option maxHeartbeats 1000000 in
theorem prod40_le (M : Nat) (ih : ∀ M', M' < M → ProdSaid M') (hM : M ≤ 137438953472) {A A2 : Option Addr} {n c m c2 x y : Nat} {w : World} (h : Num w (.slice A n c) x n) (h' : Num w (.slice A2 m c2) y m) (hnm : n ≤ m) (h40 : 40 ≤ n) (hmM : m ≤ M) :
    Calls Tryz.prog 128 #[.slice A n c, .slice A2 m c2] w (GN w (x * y) (n + m)) := by
  have C := Lib.hid (halves_of M ih hM h h' (by omega) h40 hmM)
  have q1 : ((n : Int) == 0) = false := by rw [beq_eq_false_iff_ne]; omega
  clear h h' ih hM hmM
  go_enter Tryz.func128, Tryz.ntmps128
  go_wp2_with (go_at_call 158; refine C.out.mono ?_; rintro e w1 ⟨A1, n1, c1, rfl, ho1, hb1, hl1⟩)
  go_ret
  exact ⟨_, _, _, rfl, ho1, hb1, hl1⟩
set_option maxHeartbeats 1000000 in
theorem prod0_gt {A A2 : Option Addr} {n c m c2 x : Nat} {w : World} (hn : n = 0) (hnm : n < m) :
    Calls Tryz.prog 128 #[.slice A2 m c2, .slice A n c] w (GN w (0 * x) (n + m)) := by
  subst hn
  go_enter Tryz.func128, Tryz.ntmps128
  go_wp2
  go_ret
  exact ⟨none, 0, 0, rfl, Own.nilx (by rw [Nat.zero_mul, dg_zero W_gt]), Below.refl _ _, Nat.zero_le _⟩
set_option maxHeartbeats 1000000 in
theorem prod40_gt (M : Nat) (ih : ∀ M', M' < M → ProdSaid M') (hM : M ≤ 137438953472) {A A2 : Option Addr} {n c m c2 x y : Nat} {w : World} (h : Num w (.slice A n c) x n) (h' : Num w (.slice A2 m c2) y m) (hnm : n < m) (h40 : 40 ≤ n) (hmM : m ≤ M) :
    Calls Tryz.prog 128 #[.slice A2 m c2, .slice A n c] w (GN w (x * y) (n + m)) := by
  have C := Lib.hid (halves_of M ih hM h h' (by omega) h40 hmM)
  have q1 : ((n : Int) == 0) = false := by rw [beq_eq_false_iff_ne]; omega
  clear h h' ih hM hmM
  go_enter Tryz.func128, Tryz.ntmps128
  go_wp2_with (go_at_call 158; refine C.out.mono ?_; rintro e w1 ⟨A1, n1, c1, rfl, ho1, hb1, hl1⟩)
  go_ret
  exact ⟨_, _, _, rfl, ho1, hb1, hl1⟩

theorem prod_all (M : Nat) (hM : M ≤ 137438953472) : ProdSaid M := by
  induction M using Nat.strongRecOn with
  | _ M ih0 =>
    have ih : ∀ M', M' < M → ProdSaid M' := fun M' h => ih0 M' h (by omega)
    intro w v u x y L K h h' hL hK
    obtain ⟨A, n, c, xs, rfl, h1, h2, h3, h4⟩ := h
    obtain ⟨A2, m, c2, ys, rfl, k1, k2, k3, k4⟩ := h'
    have N1 : Num w (.slice A n c) x n := ⟨A, n, c, xs, rfl, h1, h2, h3, Nat.le_refl _⟩
    have N2 : Num w (.slice A2 m c2) y m := ⟨A2, m, c2, ys, rfl, k1, k2, k3, Nat.le_refl _⟩
    have z : ∀ {xs : List Nat} {n x : Nat}, xs.length = n → n = 0 → val W xs = x → x = 0 := by
      intro xs n x e1 e2 e3
      rw [List.eq_nil_of_length_eq_zero (e1.trans e2)] at e3
      exact e3.symm
    have fin : ∀ e w', GN w (x * y) (n + m) e w' → GN w (x * y) (L + K) e w' := by
      rintro e w' ⟨A, n1, c, he, ho, hb, hl⟩
      exact ⟨A, n1, c, he, ho, hb, by omega⟩
    have fin2 : ∀ e w', GN w (y * x) (m + n) e w' → GN w (x * y) (L + K) e w' := by
      rw [Nat.mul_comm y x, Nat.add_comm m n]; exact fin
    by_cases hnm : n ≤ m
    · by_cases h0 : n = 0
      · have hx := z h1.len h0 h3
        subst hx
        exact (prod0_le h0 hnm).mono fin
      · by_cases h40 : n < 40
        · obtain ⟨b, off, e, _, _⟩ := h1.2 (by omega)
          obtain ⟨b', off', e', _, _⟩ := k1.2 (by omega)
          subst e e' h3 k3
          exact (school_le h1 k1 h2 k2 hnm (by omega) (by omega) h40).mono fin
        · exact (prod40_le M ih hM N1 N2 hnm (by omega) (by omega)).mono fin
    · by_cases h0 : m = 0
      · have hx := z k1.len h0 k3
        subst hx
        exact (prod0_gt h0 (by omega)).mono fin2
      · by_cases h40 : m < 40
        · obtain ⟨b, off, e, _, _⟩ := h1.2 (by omega)
          obtain ⟨b', off', e', _, _⟩ := k1.2 (by omega)
          subst e e' h3 k3
          exact (school_gt k1 h1 k2 h2 (by omega) (by omega) (by omega) h40).mono fin2
        · exact (prod40_gt M ih hM N2 N1 (by omega) (by omega) (by omega)).mono fin2
theorem product_any {v u : Value} {x y L K : Nat} {w : World} (h : Num w v x L) (h' : Num w u y K) (hL : L ≤ 137438953472) (hK : K ≤ 137438953472) :
    Calls Tryz.prog 128 #[v, u] w (GN w (x * y) (L + K)) := prod_all 137438953472 (Nat.le_refl _) w v u x y L K h h' hL hK

set_option maxHeartbeats 400000 in
theorem mul_any {v u : Value} {x y L K : Nat} {w : World} (h : Num w v x L) (h' : Num w u y K) (hL : L ≤ 137438953472) (hK : K ≤ 137438953472) :
    Calls Tryz.prog 80 #[v, u] w (GN w (x * y) (L + K)) := by
  have H := Lib.hid h
  have H' := Lib.hid h'
  clear h h'
  go_enter Tryz.func80, Tryz.ntmps80
  go_wp2_with fail
  refine (nnorm_any H.out (by omega)).mono ?_
  rintro e w1 ⟨A_x1, n_x1, c_x1, rfl, o_x1, hb1, l_x1⟩
  go_wp2_with fail
  refine (nnorm_any (H'.out.below hb1) (by omega)).mono ?_
  rintro e w2 ⟨A_x2, n_x2, c_x2, rfl, o_x2, hb2, l_x2⟩
  go_wp2_with fail
  refine (product_any ((o_x1.num l_x1).below hb2) (o_x2.num l_x2) (by omega) (by omega)).mono ?_
  rintro e w3 ⟨A_r, n_r, c_r, rfl, o_r, hb3, l_r⟩
  go_wp2
  go_ret
  exact ⟨_, _, _, rfl, (o_r.mono (bt hb1 hb2).size), (bt (bt hb1 hb2) hb3), l_r⟩

set_option maxHeartbeats 400000 in
theorem square_any {v : Value} {x L : Nat} {w : World} (h : Num w v x L) (hL : L ≤ 137438953472) :
    Calls Tryz.prog 86 #[v] w (GN w (x * x) (L + L)) := by
  have H := Lib.hid h
  clear h
  go_enter Tryz.func86, Tryz.ntmps86
  go_wp2_with fail
  refine (mul_any H.out H.out (by omega) (by omega)).mono ?_
  rintro e w1 ⟨A_r, n_r, c_r, rfl, o_r, hb1, l_r⟩
  go_wp2
  go_ret
  exact ⟨_, _, _, rfl, o_r, hb1, l_r⟩

end Go.Proofs.YtamfhmmcnlollaaGreat
