/-
  LimbSums: Add, Sub, MulAdd, MulSub, DivOne of any lists and words are the document's.
-/
import Derived.Test.YtgiecdokjmcogaaMsubR
namespace Go.Proofs.Ytgiecdokjmcogaa
open Go.RowKit
set_option linter.unusedVariables false

theorem At.grow {w : World} {p : Addr} {v : Value} (h : At w p v) : ∀ w', Grow none w.drew w' → w'.cell? p = some v := fun w' g => g.cell (p := p) (v := v) h.1 (by simp)

theorem same1_yes {A A2 : Option Addr} {n c m c2 : Nat} {xs ys : List Nat} {w : World} (h : Rd .u64 w A n c xs) (h' : Rd .u64 w A2 m c2 ys) (e : xs = ys) (hn : n ≤ 1099511627776) :
    Calls Try.prog 28 #[.slice A n c, .slice A2 m c2] w (Keeps (.bool true) w) :=
  (same1_any h h' hn).mono fun _ _ ⟨he, q, hq⟩ => ⟨by rw [he, e]; simp, by rw [hq]; exact below_drewN _ _⟩

theorem copiedC_any {A : Option Addr} {n c : Nat} {xs : List Nat} {w : World} (h : Rd .u64 w A n c xs) (hn : n ≤ 1099511627776) :
    Calls Try.prog 26 #[.slice A n c] w (fun e w' => ∃ A' c', e = .returned (.slice A' n c') ∧ Own .u64 25 w.heap.size w' A' n c' xs ∧ Below w.heap.size w w') :=
  (copied_any h hn).mono fun _ _ ⟨A', n', c', e, o, hb⟩ => by
    obtain rfl : n' = n := by rw [← o.len, h.len]
    exact ⟨A', c', e, o, hb⟩

theorem msub_both {xs ys : List Nat} {n m y : Nat} (hx : All W xs) (hys : All W ys) (hy : y < W) (hn : n ≤ 4294967296) (hm : m ≤ 4294967296) : ∃ (zs : List Nat) (v u : Int), zs.length ≤ n ∧
    (∀ ⦃A A2 : Option Addr⦄ ⦃c c2 : Nat⦄ ⦃w : World⦄, Rd .u64 w A n c xs → Rd .u64 w A2 m c2 ys → Calls Try.prog 69 #[.slice A n c, .slice A2 m c2, .int .u64 (y : Int)] w (Gives3 .u64 25 w zs (.int .u64 v) (.int .i64 u))) ∧
    (∀ ⦃A A2 : Option Addr⦄ ⦃c c2 : Nat⦄ ⦃w : World⦄, Rd .u64 w A n c xs → Rd .u64 w A2 m c2 ys → Calls Try.prog 70 #[.slice A n c, .slice A2 m c2, .int .u64 (y : Int)] w (Gives3 .u64 25 w zs (.int .u64 v) (.int .i64 u))) := by
  by_cases h : m ≤ n
  · exact ⟨_, _, _, by rw [wds_length]; exact Nat.le_refl _, fun _ _ _ _ _ h1 h2 => lmulSub_any h1 h2 hx hys rfl hy h (by omega), fun _ _ _ _ _ h1 h2 => rmulSub1_any h1 h2 hx hys hy h hn⟩
  · exact ⟨[], 0, 3, Nat.zero_le _, fun _ _ _ _ _ h1 h2 => lmulSub_arg (by omega), fun _ _ _ _ _ h1 h2 => rmulSub1_arg (by omega)⟩
theorem div_both {xs : List Nat} {n y : Nat} (hx : All W xs) (hy : y < W) (hn : n ≤ 4294967296) : ∃ (zs : List Nat) (v u : Int), zs.length ≤ n ∧
    (∀ ⦃A : Option Addr⦄ ⦃c : Nat⦄ ⦃w : World⦄, Rd .u64 w A n c xs → Calls Try.prog 71 #[.slice A n c, .int .u64 (y : Int)] w (Gives3 .u64 25 w zs (.int .u64 v) (.int .i64 u))) ∧
    (∀ ⦃A : Option Addr⦄ ⦃c : Nat⦄ ⦃w : World⦄, Rd .u64 w A n c xs → Calls Try.prog 72 #[.slice A n c, .int .u64 (y : Int)] w (Gives3 .u64 25 w zs (.int .u64 v) (.int .i64 u))) := by
  by_cases h : y = 0
  · subst h
    exact ⟨[], 0, 1, Nat.zero_le _, fun _ _ _ h1 => divOne_zero, fun _ _ _ h1 => rdivOne1_zero⟩
  · exact ⟨_, _, _, by rw [wds_length]; exact Nat.le_refl _, fun _ _ _ h1 => divOne_any h1 hx rfl (by omega) hy (by omega), fun _ _ _ h1 => rdivOne1_any h1 hx (by omega) hy hn⟩

set_option maxHeartbeats 4000000 in
set_option maxRecDepth 100000 in
theorem limbSums_any {x y z c n ca m cb : Nat} {A B : Option Addr} {N : Value} {xs ys : List Nat} {w : World} (hx : x < W) (hc : c < W) (h : Rd .u64 w A n ca xs) (h' : Rd .u64 w B m cb ys) (ha : All W xs) (hb : All W ys) (hn : n ≤ 1048576) (hm : m ≤ 1048576) :
    Calls Try.prog 12 #[.agg #[.int .u64 (x : Int), .int .u64 (y : Int), .int .u64 (z : Int), .int .u64 (c : Int), .slice A n ca, .slice B m cb, N]] w (Keeps (.bool true) w) := by
  obtain ⟨zs1, v1, u1, lz1, P1, Q1⟩ := msub_both (y := x) ha hb hx (n := n) (m := m) (by omega) (by omega)
  obtain ⟨zs2, v2, u2, lz2, P2, Q2⟩ := div_both (y := x) ha hx (n := n) (by omega)
  have HP1 := Lib.hid P1
  have HQ1 := Lib.hid Q1
  have HP2 := Lib.hid P2
  have HQ2 := Lib.hid Q2
  have HX := Lib.hid hx
  have HC := Lib.hid hc
  have H := Lib.hid h
  have H' := Lib.hid h'
  have HA := Lib.hid ha
  have HB := Lib.hid hb
  clear hx hc h h' ha hb P1 Q1 P2 Q2
  go_enter Try.func12, Try.ntmps12
  go_wp2_with fail
  refine (fixed_any _).mono ?_
  rintro e w1 ⟨rfl, hb1⟩
  go_wp2_with fail
  have e_f4 := ((At.box (i := 4) _ _ rfl).below hb1).1
  have g_f4 := At.grow ((At.box (i := 4) _ _ rfl).below hb1)
  have e_f5 := ((At.box (i := 5) _ _ rfl).below hb1).1
  have g_f5 := At.grow ((At.box (i := 5) _ _ rfl).below hb1)
  refine wp_region_grow none [(true, 0), (true, 1), (true, 3), (true, 4), (false, 2), (false, 5), (false, 6), (true, 7), (true, 8), (true, 9), (true, 10), (true, 11)] (by kernel_rfl) (by kernel_rfl) ?_
  repeat (refine ord_pas (by rfl) (fun K hK => ?_); go_simp; refine hK _ _ (fun w' hw' => (by go_simp)) ?_; clear hK K)
  (refine ord_call (by rfl) (fun K hK => ?_); go_simp; refine hK _ _ ?_; clear hK K)
  refine (copiedC_any (((H.out.below ((Below.refl _ _).alloc (Nat.le_refl _) _)).below hb1).below (Below.refl _ _).drew) (by omega)).mono ?_
  rintro e w2 ⟨A_a1, c_a1, rfl, o_a1, hb2⟩
  refine ⟨_, rfl, Grow.of_below hb2, ?_⟩
  (refine ord_norm (fun K hK => ?_); go_simp; refine hK _ ?_; clear hK K)
  (refine ord_call (by rfl) (fun K hK => ?_); go_simp; refine hK _ _ ?_; clear hK K)
  refine (copiedC_any ((((H'.out.below ((Below.refl _ _).alloc (Nat.le_refl _) _)).below hb1).below (Below.refl _ _).drew).below hb2) (by omega)).mono ?_
  rintro e w3 ⟨A_b1, c_b1, rfl, o_b1, hb3⟩
  refine ⟨_, rfl, Grow.of_below hb3, ?_⟩
  (refine ord_norm (fun K hK => ?_); go_simp; refine hK _ ?_; clear hK K)
  (refine ord_call (by rfl) (fun K hK => ?_); go_simp; refine hK _ _ ?_; clear hK K)
  refine (ladd_any _ _ _ _ _ _ _ _ _ (o_a1.rd.below hb3) o_b1.rd HA.out HB.out (by omega) (by omega)).mono ?_
  rintro e w4 ⟨A_s, n_s, c_s, rfl, o_s, hb4⟩
  refine ⟨_, rfl, Grow.of_below hb4, ?_⟩
  (refine ord_norm (fun K hK => ?_); go_simp; refine hK _ ?_; clear hK K)
  repeat (refine ord_pas (by rfl) (fun K hK => ?_); go_simp; refine hK _ _ (fun w' hw' => (by go_simp)) ?_; clear hK K)
  refine ord_nil ?_
  clear g_f4 e_f4 g_f5 e_f5
  have e1 := ((((((At.box (i := 4) _ _ rfl).below hb1).below (Below.refl _ _).drew).below hb2).below hb3).below hb4).1
  have e2 := ((((((At.box (i := 5) _ _ rfl).below hb1).below (Below.refl _ _).drew).below hb2).below hb3).below hb4).1
  go_wp2_with fail
  refine (radd1_any ((((((H.out.below ((Below.refl _ _).alloc (Nat.le_refl _) _)).below hb1).below (Below.refl _ _).drew).below hb2).below hb3).below hb4) ((((((H'.out.below ((Below.refl _ _).alloc (Nat.le_refl _) _)).below hb1).below (Below.refl _ _).drew).below hb2).below hb3).below hb4) HA.out HB.out (by omega) (by omega)).mono ?_
  rintro e w5 ⟨A_t, n_t, c_t, rfl, o_t, hb5⟩
  clear e1 e2
  go_wp2_with fail
  refine (same1_yes (o_s.rd.below hb5) o_t.rd rfl (by have := o_s.len; rw [wds_length] at this; omega)).mono ?_
  rintro e w6 ⟨rfl, hb6⟩
  clear o_a1 o_b1 o_s o_t
  go_wp2_with fail
  have e_f4 := ((((((((At.box (i := 4) _ _ rfl).below hb1).below (Below.refl _ _).drew).below hb2).below hb3).below hb4).below hb5).below hb6).1
  have g_f4 := At.grow ((((((((At.box (i := 4) _ _ rfl).below hb1).below (Below.refl _ _).drew).below hb2).below hb3).below hb4).below hb5).below hb6)
  have e_f5 := ((((((((At.box (i := 5) _ _ rfl).below hb1).below (Below.refl _ _).drew).below hb2).below hb3).below hb4).below hb5).below hb6).1
  have g_f5 := At.grow ((((((((At.box (i := 5) _ _ rfl).below hb1).below (Below.refl _ _).drew).below hb2).below hb3).below hb4).below hb5).below hb6)
  refine wp_region_grow none [(true, 0), (true, 1), (true, 3), (true, 4), (false, 2), (false, 5), (false, 6), (true, 7), (true, 8), (true, 9), (true, 10), (true, 11)] (by kernel_rfl) (by kernel_rfl) ?_
  repeat (refine ord_pas (by rfl) (fun K hK => ?_); go_simp; refine hK _ _ (fun w' hw' => (by go_simp)) ?_; clear hK K)
  (refine ord_call (by rfl) (fun K hK => ?_); go_simp; refine hK _ _ ?_; clear hK K)
  refine (copiedC_any (((((((((H.out.below ((Below.refl _ _).alloc (Nat.le_refl _) _)).below hb1).below (Below.refl _ _).drew).below hb2).below hb3).below hb4).below hb5).below hb6).below (Below.refl _ _).drew) (by omega)).mono ?_
  rintro e w7 ⟨A_a2, c_a2, rfl, o_a2, hb7⟩
  refine ⟨_, rfl, Grow.of_below hb7, ?_⟩
  (refine ord_norm (fun K hK => ?_); go_simp; refine hK _ ?_; clear hK K)
  (refine ord_call (by rfl) (fun K hK => ?_); go_simp; refine hK _ _ ?_; clear hK K)
  refine (copiedC_any ((((((((((H'.out.below ((Below.refl _ _).alloc (Nat.le_refl _) _)).below hb1).below (Below.refl _ _).drew).below hb2).below hb3).below hb4).below hb5).below hb6).below (Below.refl _ _).drew).below hb7) (by omega)).mono ?_
  rintro e w8 ⟨A_b2, c_b2, rfl, o_b2, hb8⟩
  refine ⟨_, rfl, Grow.of_below hb8, ?_⟩
  (refine ord_norm (fun K hK => ?_); go_simp; refine hK _ ?_; clear hK K)
  (refine ord_call (by rfl) (fun K hK => ?_); go_simp; refine hK _ _ ?_; clear hK K)
  refine (lsub_any _ _ _ _ _ _ _ _ _ (o_a2.rd.below hb8) o_b2.rd HA.out HB.out (by omega) (by omega)).mono ?_
  rintro e w9 ⟨A_s2, n_s2, c_s2, rfl, o_s2, hb9⟩
  refine ⟨_, rfl, Grow.of_below hb9, ?_⟩
  (refine ord_norm (fun K hK => ?_); go_simp; refine hK _ ?_; clear hK K)
  repeat (refine ord_pas (by rfl) (fun K hK => ?_); go_simp; refine hK _ _ (fun w' hw' => (by go_simp)) ?_; clear hK K)
  refine ord_nil ?_
  clear g_f4 e_f4 g_f5 e_f5
  have e1 := ((((((((((((At.box (i := 4) _ _ rfl).below hb1).below (Below.refl _ _).drew).below hb2).below hb3).below hb4).below hb5).below hb6).below (Below.refl _ _).drew).below hb7).below hb8).below hb9).1
  have e2 := ((((((((((((At.box (i := 5) _ _ rfl).below hb1).below (Below.refl _ _).drew).below hb2).below hb3).below hb4).below hb5).below hb6).below (Below.refl _ _).drew).below hb7).below hb8).below hb9).1
  go_wp2_with fail
  refine (rsub1_any ((((((((((((H.out.below ((Below.refl _ _).alloc (Nat.le_refl _) _)).below hb1).below (Below.refl _ _).drew).below hb2).below hb3).below hb4).below hb5).below hb6).below (Below.refl _ _).drew).below hb7).below hb8).below hb9) ((((((((((((H'.out.below ((Below.refl _ _).alloc (Nat.le_refl _) _)).below hb1).below (Below.refl _ _).drew).below hb2).below hb3).below hb4).below hb5).below hb6).below (Below.refl _ _).drew).below hb7).below hb8).below hb9) HA.out HB.out (by omega) (by omega)).mono ?_
  rintro e w10 ⟨A_t2, n_t2, c_t2, rfl, o_t2, hb10⟩
  clear e1 e2
  go_wp2_with fail
  refine (same1_yes (o_s2.rd.below hb10) o_t2.rd rfl (by have := o_s2.len; rw [wds_length] at this; omega)).mono ?_
  rintro e w11 ⟨rfl, hb11⟩
  clear o_a2 o_b2 o_s2 o_t2
  go_wp2_with fail
  have e_f4 := ((((((((((((((At.box (i := 4) _ _ rfl).below hb1).below (Below.refl _ _).drew).below hb2).below hb3).below hb4).below hb5).below hb6).below (Below.refl _ _).drew).below hb7).below hb8).below hb9).below hb10).below hb11).1
  have g_f4 := At.grow ((((((((((((((At.box (i := 4) _ _ rfl).below hb1).below (Below.refl _ _).drew).below hb2).below hb3).below hb4).below hb5).below hb6).below (Below.refl _ _).drew).below hb7).below hb8).below hb9).below hb10).below hb11)
  have e_f0 := ((((((((((((((At.box (i := 0) _ _ rfl).below hb1).below (Below.refl _ _).drew).below hb2).below hb3).below hb4).below hb5).below hb6).below (Below.refl _ _).drew).below hb7).below hb8).below hb9).below hb10).below hb11).1
  have g_f0 := At.grow ((((((((((((((At.box (i := 0) _ _ rfl).below hb1).below (Below.refl _ _).drew).below hb2).below hb3).below hb4).below hb5).below hb6).below (Below.refl _ _).drew).below hb7).below hb8).below hb9).below hb10).below hb11)
  have e_f3 := ((((((((((((((At.box (i := 3) _ _ rfl).below hb1).below (Below.refl _ _).drew).below hb2).below hb3).below hb4).below hb5).below hb6).below (Below.refl _ _).drew).below hb7).below hb8).below hb9).below hb10).below hb11).1
  have g_f3 := At.grow ((((((((((((((At.box (i := 3) _ _ rfl).below hb1).below (Below.refl _ _).drew).below hb2).below hb3).below hb4).below hb5).below hb6).below (Below.refl _ _).drew).below hb7).below hb8).below hb9).below hb10).below hb11)
  refine wp_region_grow none [(true, 0), (true, 1), (true, 3), (true, 4), (true, 5), (true, 6), (false, 2), (false, 7), (true, 8), (true, 9), (true, 10), (true, 11), (true, 12)] (by kernel_rfl) (by kernel_rfl) ?_
  repeat (refine ord_pas (by rfl) (fun K hK => ?_); go_simp; refine hK _ _ (fun w' hw' => (by go_simp)) ?_; clear hK K)
  (refine ord_call (by rfl) (fun K hK => ?_); go_simp; refine hK _ _ ?_; clear hK K)
  refine (copiedC_any (((((((((((((((H.out.below ((Below.refl _ _).alloc (Nat.le_refl _) _)).below hb1).below (Below.refl _ _).drew).below hb2).below hb3).below hb4).below hb5).below hb6).below (Below.refl _ _).drew).below hb7).below hb8).below hb9).below hb10).below hb11).below (Below.refl _ _).drew) (by omega)).mono ?_
  rintro e w12 ⟨A_a3, c_a3, rfl, o_a3, hb12⟩
  refine ⟨_, rfl, Grow.of_below hb12, ?_⟩
  (refine ord_norm (fun K hK => ?_); go_simp; refine hK _ ?_; clear hK K)
  (refine ord_call (by rfl) (fun K hK => ?_); go_simp; refine hK _ _ ?_; clear hK K)
  refine (lmulAdd_any o_a3.rd HA.out rfl HX.out rfl HC.out (by omega)).mono ?_
  rintro e w13 ⟨A_s3, n_s3, c_s3, rfl, o_s3, hb13⟩
  refine ⟨_, rfl, Grow.of_below hb13, ?_⟩
  (refine ord_norm (fun K hK => ?_); go_simp; refine hK _ ?_; clear hK K)
  repeat (refine ord_pas (by rfl) (fun K hK => ?_); go_simp; refine hK _ _ (fun w' hw' => (by go_simp)) ?_; clear hK K)
  refine ord_nil ?_
  clear g_f4 e_f4 g_f0 e_f0 g_f3 e_f3
  have e1 := (((((((((((((((((At.box (i := 4) _ _ rfl).below hb1).below (Below.refl _ _).drew).below hb2).below hb3).below hb4).below hb5).below hb6).below (Below.refl _ _).drew).below hb7).below hb8).below hb9).below hb10).below hb11).below (Below.refl _ _).drew).below hb12).below hb13).1
  have e2 := (((((((((((((((((At.box (i := 0) _ _ rfl).below hb1).below (Below.refl _ _).drew).below hb2).below hb3).below hb4).below hb5).below hb6).below (Below.refl _ _).drew).below hb7).below hb8).below hb9).below hb10).below hb11).below (Below.refl _ _).drew).below hb12).below hb13).1
  have e3 := (((((((((((((((((At.box (i := 3) _ _ rfl).below hb1).below (Below.refl _ _).drew).below hb2).below hb3).below hb4).below hb5).below hb6).below (Below.refl _ _).drew).below hb7).below hb8).below hb9).below hb10).below hb11).below (Below.refl _ _).drew).below hb12).below hb13).1
  go_wp2_with fail
  refine (rmulAdd1_any (((((((((((((((((H.out.below ((Below.refl _ _).alloc (Nat.le_refl _) _)).below hb1).below (Below.refl _ _).drew).below hb2).below hb3).below hb4).below hb5).below hb6).below (Below.refl _ _).drew).below hb7).below hb8).below hb9).below hb10).below hb11).below (Below.refl _ _).drew).below hb12).below hb13) HA.out HX.out HC.out (by omega)).mono ?_
  rintro e w14 ⟨A_t3, n_t3, c_t3, rfl, o_t3, hb14⟩
  clear e1 e2 e3
  go_wp2_with fail
  refine (same1_yes (o_s3.rd.below hb14) o_t3.rd rfl (by have := o_s3.len; rw [wds_length] at this; omega)).mono ?_
  rintro e w15 ⟨rfl, hb15⟩
  clear o_a3 o_s3 o_t3
  go_wp2_with fail
  have e_f4 := (((((((((((((((((((At.box (i := 4) _ _ rfl).below hb1).below (Below.refl _ _).drew).below hb2).below hb3).below hb4).below hb5).below hb6).below (Below.refl _ _).drew).below hb7).below hb8).below hb9).below hb10).below hb11).below (Below.refl _ _).drew).below hb12).below hb13).below hb14).below hb15).1
  have g_f4 := At.grow (((((((((((((((((((At.box (i := 4) _ _ rfl).below hb1).below (Below.refl _ _).drew).below hb2).below hb3).below hb4).below hb5).below hb6).below (Below.refl _ _).drew).below hb7).below hb8).below hb9).below hb10).below hb11).below (Below.refl _ _).drew).below hb12).below hb13).below hb14).below hb15)
  have e_f5 := (((((((((((((((((((At.box (i := 5) _ _ rfl).below hb1).below (Below.refl _ _).drew).below hb2).below hb3).below hb4).below hb5).below hb6).below (Below.refl _ _).drew).below hb7).below hb8).below hb9).below hb10).below hb11).below (Below.refl _ _).drew).below hb12).below hb13).below hb14).below hb15).1
  have g_f5 := At.grow (((((((((((((((((((At.box (i := 5) _ _ rfl).below hb1).below (Below.refl _ _).drew).below hb2).below hb3).below hb4).below hb5).below hb6).below (Below.refl _ _).drew).below hb7).below hb8).below hb9).below hb10).below hb11).below (Below.refl _ _).drew).below hb12).below hb13).below hb14).below hb15)
  have e_f0 := (((((((((((((((((((At.box (i := 0) _ _ rfl).below hb1).below (Below.refl _ _).drew).below hb2).below hb3).below hb4).below hb5).below hb6).below (Below.refl _ _).drew).below hb7).below hb8).below hb9).below hb10).below hb11).below (Below.refl _ _).drew).below hb12).below hb13).below hb14).below hb15).1
  have g_f0 := At.grow (((((((((((((((((((At.box (i := 0) _ _ rfl).below hb1).below (Below.refl _ _).drew).below hb2).below hb3).below hb4).below hb5).below hb6).below (Below.refl _ _).drew).below hb7).below hb8).below hb9).below hb10).below hb11).below (Below.refl _ _).drew).below hb12).below hb13).below hb14).below hb15)
  refine wp_region_grow none [(true, 0), (true, 1), (true, 3), (true, 4), (true, 6), (true, 7), (false, 2), (false, 5), (false, 8), (true, 9), (true, 10), (true, 11), (true, 12), (true, 13), (true, 14), (true, 15)] (by kernel_rfl) (by kernel_rfl) ?_
  repeat (refine ord_pas (by rfl) (fun K hK => ?_); go_simp; refine hK _ _ (fun w' hw' => (by go_simp)) ?_; clear hK K)
  (refine ord_call (by rfl) (fun K hK => ?_); go_simp; refine hK _ _ ?_; clear hK K)
  refine (copiedC_any ((((((((((((((((((((H.out.below ((Below.refl _ _).alloc (Nat.le_refl _) _)).below hb1).below (Below.refl _ _).drew).below hb2).below hb3).below hb4).below hb5).below hb6).below (Below.refl _ _).drew).below hb7).below hb8).below hb9).below hb10).below hb11).below (Below.refl _ _).drew).below hb12).below hb13).below hb14).below hb15).below (Below.refl _ _).drew) (by omega)).mono ?_
  rintro e w16 ⟨A_a4, c_a4, rfl, o_a4, hb16⟩
  refine ⟨_, rfl, Grow.of_below hb16, ?_⟩
  (refine ord_norm (fun K hK => ?_); go_simp; refine hK _ ?_; clear hK K)
  (refine ord_call (by rfl) (fun K hK => ?_); go_simp; refine hK _ _ ?_; clear hK K)
  refine (copiedC_any (((((((((((((((((((((H'.out.below ((Below.refl _ _).alloc (Nat.le_refl _) _)).below hb1).below (Below.refl _ _).drew).below hb2).below hb3).below hb4).below hb5).below hb6).below (Below.refl _ _).drew).below hb7).below hb8).below hb9).below hb10).below hb11).below (Below.refl _ _).drew).below hb12).below hb13).below hb14).below hb15).below (Below.refl _ _).drew).below hb16) (by omega)).mono ?_
  rintro e w17 ⟨A_b4, c_b4, rfl, o_b4, hb17⟩
  refine ⟨_, rfl, Grow.of_below hb17, ?_⟩
  (refine ord_norm (fun K hK => ?_); go_simp; refine hK _ ?_; clear hK K)
  (refine ord_call (by rfl) (fun K hK => ?_); go_simp; refine hK _ _ ?_; clear hK K)
  refine (HP1.out (o_a4.rd.below hb17) o_b4.rd).mono ?_
  rintro e w18 ⟨A_s4, n_s4, c_s4, rfl, o_s4, hb18⟩
  refine ⟨_, rfl, Grow.of_below hb18, ?_⟩
  (refine ord_norm (fun K hK => ?_); go_simp; refine hK _ ?_; clear hK K)
  repeat (refine ord_pas (by rfl) (fun K hK => ?_); go_simp; refine hK _ _ (fun w' hw' => (by go_simp)) ?_; clear hK K)
  refine ord_nil ?_
  clear g_f4 e_f4 g_f5 e_f5 g_f0 e_f0
  have e1 := (((((((((((((((((((((((At.box (i := 4) _ _ rfl).below hb1).below (Below.refl _ _).drew).below hb2).below hb3).below hb4).below hb5).below hb6).below (Below.refl _ _).drew).below hb7).below hb8).below hb9).below hb10).below hb11).below (Below.refl _ _).drew).below hb12).below hb13).below hb14).below hb15).below (Below.refl _ _).drew).below hb16).below hb17).below hb18).1
  have e2 := (((((((((((((((((((((((At.box (i := 5) _ _ rfl).below hb1).below (Below.refl _ _).drew).below hb2).below hb3).below hb4).below hb5).below hb6).below (Below.refl _ _).drew).below hb7).below hb8).below hb9).below hb10).below hb11).below (Below.refl _ _).drew).below hb12).below hb13).below hb14).below hb15).below (Below.refl _ _).drew).below hb16).below hb17).below hb18).1
  have e3 := (((((((((((((((((((((((At.box (i := 0) _ _ rfl).below hb1).below (Below.refl _ _).drew).below hb2).below hb3).below hb4).below hb5).below hb6).below (Below.refl _ _).drew).below hb7).below hb8).below hb9).below hb10).below hb11).below (Below.refl _ _).drew).below hb12).below hb13).below hb14).below hb15).below (Below.refl _ _).drew).below hb16).below hb17).below hb18).1
  go_wp2_with fail
  refine (HQ1.out (((((((((((((((((((((((H.out.below ((Below.refl _ _).alloc (Nat.le_refl _) _)).below hb1).below (Below.refl _ _).drew).below hb2).below hb3).below hb4).below hb5).below hb6).below (Below.refl _ _).drew).below hb7).below hb8).below hb9).below hb10).below hb11).below (Below.refl _ _).drew).below hb12).below hb13).below hb14).below hb15).below (Below.refl _ _).drew).below hb16).below hb17).below hb18) (((((((((((((((((((((((H'.out.below ((Below.refl _ _).alloc (Nat.le_refl _) _)).below hb1).below (Below.refl _ _).drew).below hb2).below hb3).below hb4).below hb5).below hb6).below (Below.refl _ _).drew).below hb7).below hb8).below hb9).below hb10).below hb11).below (Below.refl _ _).drew).below hb12).below hb13).below hb14).below hb15).below (Below.refl _ _).drew).below hb16).below hb17).below hb18)).mono ?_
  rintro e w19 ⟨A_t4, n_t4, c_t4, rfl, o_t4, hb19⟩
  clear e1 e2 e3
  go_wp2_with fail
  refine (same1_yes (o_s4.rd.below hb19) o_t4.rd rfl (by have := o_s4.len; omega)).mono ?_
  rintro e w20 ⟨rfl, hb20⟩
  clear o_a4 o_b4 o_s4 o_t4
  go_wp2_with fail
  have e_f4 := (((((((((((((((((((((((((At.box (i := 4) _ _ rfl).below hb1).below (Below.refl _ _).drew).below hb2).below hb3).below hb4).below hb5).below hb6).below (Below.refl _ _).drew).below hb7).below hb8).below hb9).below hb10).below hb11).below (Below.refl _ _).drew).below hb12).below hb13).below hb14).below hb15).below (Below.refl _ _).drew).below hb16).below hb17).below hb18).below hb19).below hb20).1
  have g_f4 := At.grow (((((((((((((((((((((((((At.box (i := 4) _ _ rfl).below hb1).below (Below.refl _ _).drew).below hb2).below hb3).below hb4).below hb5).below hb6).below (Below.refl _ _).drew).below hb7).below hb8).below hb9).below hb10).below hb11).below (Below.refl _ _).drew).below hb12).below hb13).below hb14).below hb15).below (Below.refl _ _).drew).below hb16).below hb17).below hb18).below hb19).below hb20)
  have e_f0 := (((((((((((((((((((((((((At.box (i := 0) _ _ rfl).below hb1).below (Below.refl _ _).drew).below hb2).below hb3).below hb4).below hb5).below hb6).below (Below.refl _ _).drew).below hb7).below hb8).below hb9).below hb10).below hb11).below (Below.refl _ _).drew).below hb12).below hb13).below hb14).below hb15).below (Below.refl _ _).drew).below hb16).below hb17).below hb18).below hb19).below hb20).1
  have g_f0 := At.grow (((((((((((((((((((((((((At.box (i := 0) _ _ rfl).below hb1).below (Below.refl _ _).drew).below hb2).below hb3).below hb4).below hb5).below hb6).below (Below.refl _ _).drew).below hb7).below hb8).below hb9).below hb10).below hb11).below (Below.refl _ _).drew).below hb12).below hb13).below hb14).below hb15).below (Below.refl _ _).drew).below hb16).below hb17).below hb18).below hb19).below hb20)
  refine wp_region_grow none [(true, 0), (true, 1), (true, 3), (true, 4), (false, 2), (false, 5), (true, 6), (true, 7), (true, 8), (true, 9), (true, 10), (true, 11), (true, 12)] (by kernel_rfl) (by kernel_rfl) ?_
  repeat (refine ord_pas (by rfl) (fun K hK => ?_); go_simp; refine hK _ _ (fun w' hw' => (by go_simp)) ?_; clear hK K)
  (refine ord_call (by rfl) (fun K hK => ?_); go_simp; refine hK _ _ ?_; clear hK K)
  refine (copiedC_any ((((((((((((((((((((((((((H.out.below ((Below.refl _ _).alloc (Nat.le_refl _) _)).below hb1).below (Below.refl _ _).drew).below hb2).below hb3).below hb4).below hb5).below hb6).below (Below.refl _ _).drew).below hb7).below hb8).below hb9).below hb10).below hb11).below (Below.refl _ _).drew).below hb12).below hb13).below hb14).below hb15).below (Below.refl _ _).drew).below hb16).below hb17).below hb18).below hb19).below hb20).below (Below.refl _ _).drew) (by omega)).mono ?_
  rintro e w21 ⟨A_a5, c_a5, rfl, o_a5, hb21⟩
  refine ⟨_, rfl, Grow.of_below hb21, ?_⟩
  (refine ord_norm (fun K hK => ?_); go_simp; refine hK _ ?_; clear hK K)
  (refine ord_call (by rfl) (fun K hK => ?_); go_simp; refine hK _ _ ?_; clear hK K)
  refine (HP2.out o_a5.rd).mono ?_
  rintro e w22 ⟨A_s5, n_s5, c_s5, rfl, o_s5, hb22⟩
  refine ⟨_, rfl, Grow.of_below hb22, ?_⟩
  (refine ord_norm (fun K hK => ?_); go_simp; refine hK _ ?_; clear hK K)
  repeat (refine ord_pas (by rfl) (fun K hK => ?_); go_simp; refine hK _ _ (fun w' hw' => (by go_simp)) ?_; clear hK K)
  refine ord_nil ?_
  clear g_f4 e_f4 g_f0 e_f0
  have e1 := ((((((((((((((((((((((((((((At.box (i := 4) _ _ rfl).below hb1).below (Below.refl _ _).drew).below hb2).below hb3).below hb4).below hb5).below hb6).below (Below.refl _ _).drew).below hb7).below hb8).below hb9).below hb10).below hb11).below (Below.refl _ _).drew).below hb12).below hb13).below hb14).below hb15).below (Below.refl _ _).drew).below hb16).below hb17).below hb18).below hb19).below hb20).below (Below.refl _ _).drew).below hb21).below hb22).1
  have e2 := ((((((((((((((((((((((((((((At.box (i := 0) _ _ rfl).below hb1).below (Below.refl _ _).drew).below hb2).below hb3).below hb4).below hb5).below hb6).below (Below.refl _ _).drew).below hb7).below hb8).below hb9).below hb10).below hb11).below (Below.refl _ _).drew).below hb12).below hb13).below hb14).below hb15).below (Below.refl _ _).drew).below hb16).below hb17).below hb18).below hb19).below hb20).below (Below.refl _ _).drew).below hb21).below hb22).1
  go_wp2_with fail
  refine (HQ2.out ((((((((((((((((((((((((((((H.out.below ((Below.refl _ _).alloc (Nat.le_refl _) _)).below hb1).below (Below.refl _ _).drew).below hb2).below hb3).below hb4).below hb5).below hb6).below (Below.refl _ _).drew).below hb7).below hb8).below hb9).below hb10).below hb11).below (Below.refl _ _).drew).below hb12).below hb13).below hb14).below hb15).below (Below.refl _ _).drew).below hb16).below hb17).below hb18).below hb19).below hb20).below (Below.refl _ _).drew).below hb21).below hb22)).mono ?_
  rintro e w23 ⟨A_t5, n_t5, c_t5, rfl, o_t5, hb23⟩
  clear e1 e2
  go_wp2_with fail
  refine (same1_yes (o_s5.rd.below hb23) o_t5.rd rfl (by have := o_s5.len; omega)).mono ?_
  rintro e w24 ⟨rfl, hb24⟩
  go_wp2
  go_ret
  exact ⟨rfl, (bt (bt (bt (bt (bt (bt (bt (bt (bt (bt (bt (bt (bt (bt (bt (bt (bt (bt (bt (bt (bt (bt (bt (bt (bt (bt (bt (bt (bt ((Below.refl _ _).alloc (Nat.le_refl _) _) hb1) (Below.refl _ _).drew) hb2) hb3) hb4) hb5) hb6) (Below.refl _ _).drew) hb7) hb8) hb9) hb10) hb11) (Below.refl _ _).drew) hb12) hb13) hb14) hb15) (Below.refl _ _).drew) hb16) hb17) hb18) hb19) hb20) (Below.refl _ _).drew) hb21) hb22) hb23) hb24)⟩
end Go.Proofs.Ytgiecdokjmcogaa
