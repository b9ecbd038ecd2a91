/-
  MulProducts: every Mul, Square, Times and MulAdd is the document's.
-/
import Derived.Test.YtgiecdokjmcogaaLawRing
import Derived.Test.YtgiecdokjmcogaaLimbD
import Derived.Test.YtgiecdokjmcogaaRef3D
namespace Go.Proofs.Ytgiecdokjmcogaa
open Go.RowKit
set_option linter.unusedVariables false

set_option maxHeartbeats 2000000 in
theorem mulProducts_any {v u t : Value} {x y z L q : Nat} {w : World} (h : Num w v x L) (h' : Num w u y L) (h'' : Num w t z L) (hq : q < W) (hL : L ≤ 1048576) :
    Calls Try.prog 4 #[v, u, .agg #[t, .int .u64 (q : Int)]] w (Keeps (.bool true) w) := by
  have H := Lib.hid h
  have H' := Lib.hid h'
  have H'' := Lib.hid h''
  have HQ := Lib.hid hq
  obtain ⟨A2, n2, c2, xs2, rfl, _⟩ := h''
  clear h h' hq
  go_enter Try.func4, Try.ntmps4
  go_wp2_with fail
  refine (awake3_any _).mono ?_
  rintro e w1 ⟨rfl, hb1⟩
  go_wp2_with fail
  refine (mul3_any ((H.out.below ((Below.refl _ _).alloc (Nat.le_refl _) _)).below hb1) ((H'.out.below ((Below.refl _ _).alloc (Nat.le_refl _) _)).below hb1) (by omega) (by omega)).mono ?_
  rintro e w2 ⟨A_p, n_p, c_p, rfl, o_p, hb2, l_p⟩
  go_wp2_with fail
  refine (mul3_any (((H.out.below ((Below.refl _ _).alloc (Nat.le_refl _) _)).below hb1).below hb2) (((H.out.below ((Below.refl _ _).alloc (Nat.le_refl _) _)).below hb1).below hb2) (by omega) (by omega)).mono ?_
  rintro e w3 ⟨A_s, n_s, c_s, rfl, o_s, hb3, l_s⟩
  have hc1 := ((((At.box (i := 1) _ _ rfl).below hb1).below hb2).below hb3).1
  go_wp2_with fail
  refine (of3_any rfl HQ.out).mono ?_
  rintro e w4 ⟨A_qw, n_qw, c_qw, rfl, o_qw, hb4, l_qw⟩
  go_wp2_with fail
  refine (mul3_any (((((H.out.below ((Below.refl _ _).alloc (Nat.le_refl _) _)).below hb1).below hb2).below hb3).below hb4) (o_qw.num l_qw) (by omega) (by omega)).mono ?_
  rintro e w5 ⟨A_tt, n_tt, c_tt, rfl, o_tt, hb5, l_tt⟩
  have hc2 := ((((((At.box (i := 0) _ _ rfl).below hb1).below hb2).below hb3).below hb4).below hb5).1
  go_wp2_with fail
  refine (mulAdd3_any ((((((H.out.below ((Below.refl _ _).alloc (Nat.le_refl _) _)).below hb1).below hb2).below hb3).below hb4).below hb5) ((((((H'.out.below ((Below.refl _ _).alloc (Nat.le_refl _) _)).below hb1).below hb2).below hb3).below hb4).below hb5) ((((((H''.out.below ((Below.refl _ _).alloc (Nat.le_refl _) _)).below hb1).below hb2).below hb3).below hb4).below hb5) (by omega) (by omega) (by omega)).mono ?_
  rintro e w6 ⟨A_m, n_m, c_m, rfl, o_m, hb6, l_m⟩
  go_wp2_with fail
  refine (mul_any (((((((H.out.below ((Below.refl _ _).alloc (Nat.le_refl _) _)).below hb1).below hb2).below hb3).below hb4).below hb5).below hb6) (((((((H'.out.below ((Below.refl _ _).alloc (Nat.le_refl _) _)).below hb1).below hb2).below hb3).below hb4).below hb5).below hb6) (by omega) (by omega)).mono ?_
  rintro e w7 ⟨A_pp, n_pp, c_pp, rfl, o_pp, hb7, l_pp⟩
  go_wp2_with fail
  refine (same3_yes o_pp.rd (((((o_p.rd.below hb3).below hb4).below hb5).below hb6).below hb7) rfl (by omega)).mono ?_
  rintro e w8 ⟨rfl, hb8⟩
  go_wp2_with fail
  refine (square_any (((((((((H.out.below ((Below.refl _ _).alloc (Nat.le_refl _) _)).below hb1).below hb2).below hb3).below hb4).below hb5).below hb6).below hb7).below hb8) (by omega)).mono ?_
  rintro e w9 ⟨A_ss, n_ss, c_ss, rfl, o_ss, hb9, l_ss⟩
  go_wp2_with fail
  refine (same3_yes o_ss.rd ((((((o_s.rd.below hb4).below hb5).below hb6).below hb7).below hb8).below hb9) rfl (by omega)).mono ?_
  rintro e w10 ⟨rfl, hb10⟩
  have hc3 := (((((((((((At.box (i := 1) _ _ rfl).below hb1).below hb2).below hb3).below hb4).below hb5).below hb6).below hb7).below hb8).below hb9).below hb10).1
  go_wp2_with fail
  refine (times_any (((((((((((H.out.below ((Below.refl _ _).alloc (Nat.le_refl _) _)).below hb1).below hb2).below hb3).below hb4).below hb5).below hb6).below hb7).below hb8).below hb9).below hb10) rfl HQ.out (by omega)).mono ?_
  rintro e w11 ⟨A_t2, n_t2, c_t2, rfl, o_t2, hb11, l_t2⟩
  go_wp2_with fail
  refine (same3_yes o_t2.rd ((((((o_tt.rd.below hb6).below hb7).below hb8).below hb9).below hb10).below hb11) rfl (by omega)).mono ?_
  rintro e w12 ⟨rfl, hb12⟩
  have hc4 := (((((((((((((At.box (i := 0) _ _ rfl).below hb1).below hb2).below hb3).below hb4).below hb5).below hb6).below hb7).below hb8).below hb9).below hb10).below hb11).below hb12).1
  go_wp2_with fail
  refine (mulAdd_any (((((((((((((H.out.below ((Below.refl _ _).alloc (Nat.le_refl _) _)).below hb1).below hb2).below hb3).below hb4).below hb5).below hb6).below hb7).below hb8).below hb9).below hb10).below hb11).below hb12) (((((((((((((H'.out.below ((Below.refl _ _).alloc (Nat.le_refl _) _)).below hb1).below hb2).below hb3).below hb4).below hb5).below hb6).below hb7).below hb8).below hb9).below hb10).below hb11).below hb12) (((((((((((((H''.out.below ((Below.refl _ _).alloc (Nat.le_refl _) _)).below hb1).below hb2).below hb3).below hb4).below hb5).below hb6).below hb7).below hb8).below hb9).below hb10).below hb11).below hb12) (by omega) (by omega) (by omega)).mono ?_
  rintro e w13 ⟨A_m2, n_m2, c_m2, rfl, o_m2, hb13, l_m2⟩
  go_wp2_with fail
  refine (same3_yes o_m2.rd (((((((o_m.rd.below hb7).below hb8).below hb9).below hb10).below hb11).below hb12).below hb13) rfl (by omega)).mono ?_
  rintro e w14 ⟨rfl, hb14⟩
  go_wp2
  go_ret
  exact ⟨rfl, (bt (bt (bt (bt (bt (bt (bt (bt (bt (bt (bt (bt (bt (bt ((Below.refl _ _).alloc (Nat.le_refl _) _) hb1) hb2) hb3) hb4) hb5) hb6) hb7) hb8) hb9) hb10) hb11) hb12) hb13) hb14)⟩
end Go.Proofs.Ytgiecdokjmcogaa
