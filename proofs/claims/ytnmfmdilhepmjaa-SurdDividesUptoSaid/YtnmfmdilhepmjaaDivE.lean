/-
  Walks: div.Mod, Exact, Divides, MulMod, PowMod.
-/
import Derived.Test.YtnmfmdilhepmjaaDivD
import Derived.Test.YtnmfmdilhepmjaaRef3C
namespace Go.Proofs.Ytnmfmdilhepmjaa
open Go.RowKit
set_option linter.unusedVariables false

theorem mod_any {v u : Value} {x y L K : Nat} {w : World} (h : Num w v x L) (h' : Num w u y K) (hy0 : 0 < y) (hL : L ≤ 2147483648) (hK : K ≤ 2147483648) : Calls Try.prog 19 #[v, u] w (GNE w (x % y) K 0) := by
  have C := Lib.hid (quo_any (w := w) h h' hy0 hL hK)
  obtain ⟨_, _, _, _, rfl, _⟩ := id h
  obtain ⟨_, _, _, _, rfl, _⟩ := id h'
  clear h h'
  go_enter Try.func19, Try.ntmps19
  go_wp2_with fail
  refine (C.out).mono ?_
  rintro e w1 ⟨A_q, n_q, c_q, A_r, n_r, c_r, rfl, o_q, o_r, hb1, l_q, l_r⟩
  go_wp2
  go_ret2
  exact ⟨_, _, _, rfl, o_r, hb1, by omega⟩
theorem mod_zero {v u : Value} {x y L K : Nat} {w : World} (h : Num w v x L) (h' : Num w u y K) (hy0 : y = 0) (hL : L ≤ 2147483648) (hK : K ≤ 2147483648) : Calls Try.prog 19 #[v, u] w (GNE w 0 0 1) := by
  have C := Lib.hid (quo_zero (w := w) h h' hy0 hL hK)
  obtain ⟨_, _, _, _, rfl, _⟩ := id h
  obtain ⟨_, _, _, _, rfl, _⟩ := id h'
  clear h h'
  go_enter Try.func19, Try.ntmps19
  go_wp2_with fail
  refine (C.out).mono ?_
  rintro e w1 ⟨A_q, n_q, c_q, A_r, n_r, c_r, rfl, o_q, o_r, hb1, l_q, l_r⟩
  go_wp2
  go_ret2
  exact ⟨_, _, _, rfl, o_r, hb1, by omega⟩
theorem len_zero {n : Nat} {k : IntKind} {t : TypeId} {B c : Nat} {w : World} {A : Option Addr} {x : Nat} (h : Own k t B w A n c (dg W x)) (hx : x = 0) : n = 0 := by
  have := h.len
  rw [hx, dg_zero W_gt] at this
  exact this.symm
theorem len_pos {n : Nat} {k : IntKind} {t : TypeId} {B c : Nat} {w : World} {A : Option Addr} {x : Nat} (h : Own k t B w A n c (dg W x)) (hx : 0 < x) : 0 < n := by
  have h1 := h.len
  rcases Nat.eq_zero_or_pos n with h0 | h0
  · rw [h0] at h1
    have := (dg_nil_iff W_gt).1 (List.eq_nil_of_length_eq_zero h1)
    omega
  · exact h0
theorem exact_any {v u : Value} {x y L K : Nat} {w : World} (h : Num w v x L) (h' : Num w u y K) (hy0 : 0 < y) (he : x % y = 0) (hL : L ≤ 2147483648) (hK : K ≤ 2147483648) : Calls Try.prog 15 #[v, u] w (GNE w (x / y) L 0) := by
  have C := Lib.hid (quo_any (w := w) h h' hy0 hL hK)
  have HE := Lib.hid he
  obtain ⟨_, _, _, _, rfl, _⟩ := id h
  obtain ⟨_, _, _, _, rfl, _⟩ := id h'
  clear h h' he
  go_enter Try.func15, Try.ntmps15
  go_wp2_with fail
  refine (C.out).mono ?_
  rintro e w1 ⟨A_q, n_q, c_q, A_r, n_r, c_r, rfl, o_q, o_r, hb1, l_q, l_r⟩
  obtain rfl := len_zero o_r HE.out
  go_wp2
  go_ret2
  exact ⟨_, _, _, rfl, o_q, hb1, by omega⟩
theorem divides_yes {v u : Value} {x y L K : Nat} {w : World} (h : Num w v x L) (h' : Num w u y K) (hy0 : 0 < y) (he : x % y = 0) (hL : L ≤ 2147483648) (hK : K ≤ 2147483648) : Calls Try.prog 16 #[u, v] w (Keeps (.bool true) w) := by
  have C := Lib.hid (mod_any (w := w) h h' hy0 hL hK)
  have HE := Lib.hid he
  obtain ⟨_, _, _, _, rfl, _⟩ := id h
  obtain ⟨_, _, _, _, rfl, _⟩ := id h'
  clear h h' he
  go_enter Try.func16, Try.ntmps16
  go_wp2_with fail
  refine (C.out).mono ?_
  rintro e w1 ⟨A_r, n_r, c_r, rfl, o_r, hb1, l_r⟩
  obtain rfl := len_zero o_r HE.out
  go_wp2
  go_ret
  exact ⟨rfl, hb1⟩
theorem mulmod_any {v u t : Value} {x y z L K M : Nat} {w : World} (h : Num w v x L) (h' : Num w u y K) (h'' : Num w t z M) (hz : 0 < z) (hL : L ≤ 1073741824) (hK : K ≤ 1073741824) (hM : M ≤ 2147483648) : Calls Try.prog 41 #[v, u, t] w (GNE w (x * y % z) M 0) := by
  have H := Lib.hid h
  have H' := Lib.hid h'
  have H'' := Lib.hid h''
  obtain ⟨_, _, _, _, rfl, _⟩ := id h
  obtain ⟨_, _, _, _, rfl, _⟩ := id h'
  obtain ⟨_, _, _, _, rfl, _⟩ := id h''
  clear h h' h''
  go_enter Try.func41, Try.ntmps41
  go_wp2_with fail
  refine (mul_any H.out H'.out (by omega) (by omega)).mono ?_
  rintro e w1 ⟨A_p, n_p, c_p, rfl, o_p, hb1, l_p⟩
  go_wp2_with fail
  refine (mod_any (o_p.num l_p) (H''.out.below hb1) hz (by omega) (by omega)).mono ?_
  rintro e w2 ⟨A_r, n_r, c_r, rfl, o_r, hb2, l_r⟩
  go_wp2
  go_ret2
  exact ⟨_, _, _, rfl, (o_r.mono hb1.size), (bt hb1 hb2), by omega⟩
end Go.Proofs.Ytnmfmdilhepmjaa
