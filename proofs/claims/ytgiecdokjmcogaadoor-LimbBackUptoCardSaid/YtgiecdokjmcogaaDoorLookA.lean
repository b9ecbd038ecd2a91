/-
  The reference of layer 1: surdref01.Trim, Cmp, Bits, Zeros, Bit.
-/
import Derived.Test.YtgiecdokjmcogaaDoorSumL
import Derived.Test.YtgiecdokjmcogaaDoorNatB
import Derived.Lib.TrailingZeros
namespace Go.Proofs.YtgiecdokjmcogaaDoor
open Go.RowKit
set_option linter.unusedVariables false

set_option maxHeartbeats 1000000 in
theorem rtrim1_any {A : Option Addr} {n c : Nat} {xs : List Nat} {w : World} (h : Rd .u64 w A n c xs) (hn : n ≤ 1099511627776) :
    Calls Tryd.prog 9 #[.slice A n c] w (Gives .u64 22 w (strip xs)) := by
  have H := Lib.hid h
  have HE := Lib.hid elW
  have hcap := h.cap
  clear h
  go_enter Tryd.func9, Tryd.ntmps9
  go_wp2
  go_loop [3, 4] (fun mv iv => ∃ i m : Nat, Hid ((∀ j, m ≤ j → j < i → nth xs j = 0) ∧ (m = 0 ∨ nth xs (m - 1) ≠ 0)) ∧ m ≤ i ∧ i ≤ n ∧ mv = .int .i64 m ∧ iv = .int .i64 i) (fun _ iv => n - (intOf iv).toNat)
  case atStart => exact ⟨0, 0, ⟨fun j _ hj => by omega, .inl rfl⟩, Nat.le_refl _, by omega, rfl, rfl⟩
  case round =>
    obtain ⟨i, m, hI, hm, hi, rfl, rfl⟩ := hrel
    by_cases hlt : i < n
    · obtain ⟨b, off, e, hb, hca⟩ := H.out.at hlt
      subst e
      by_cases hz : nth xs i = 0
      · have q0 : (((nth xs i : Nat) : Int) != 0) = false := by simp [hz]
        have HZ := Lib.hid hz
        clear hz
        go_wp2
        go_round
        case rel =>
          refine ⟨i + 1, m, ⟨fun j h1 h2 => ?_, hI.out.2⟩, by omega, by omega, rfl, by go_num⟩
          by_cases hj : j = i
          · subst hj; exact HZ.out
          · exact hI.out.1 j h1 (by omega)
        case measure => simp [intOf]; omega
      · have q0 : (((nth xs i : Nat) : Int) != 0) = true := by simp [hz]
        have HZ := Lib.hid hz
        clear hz
        go_wp2
        go_round
        case rel => exact ⟨i + 1, i + 1, ⟨fun j h1 h2 => by omega, .inr HZ.out⟩, by omega, by omega, by go_num, by go_num⟩
        case measure => simp [intOf]; omega
    · obtain rfl : i = n := by omega
      have HS : Hid (strip xs = xs.take m) := strip_of_top (by rw [H.out.len]; exact hm) (fun j hj => by
        by_cases hjn : j < i
        · exact hI.out.1 j hj hjn
        · exact nth_ge (by rw [H.out.len]; omega)) hI.out.2
      have R1 := Lib.hid (H.out.upto hm)
      clear hI
      go_wp2_with (at_builtin; (refine wpList_app rfl (.tmp 18) (.tmp 21) rfl HE.out (t := 22) (k := .u64) (B := w.heap.size) (xs := []) (ys := xs.take m) rfl rfl (Own.lit0 w (Nat.le_refl _)) (R1.out.alloc _) (by omega) (by simp) ?_); intro B1 e1 w1 ho1 hb1 _ _)
      go_ret
      rw [Nat.zero_add] at ho1
      rw [HS.out]
      exact ⟨_, _, _, rfl, ho1, (belowA _ _).trans hb1⟩

set_option maxHeartbeats 400000 in
theorem rcmp1_any {A A2 : Option Addr} {n c m c2 : Nat} {xs ys : List Nat} {w : World} (h : Rd .u64 w A n c xs) (h' : Rd .u64 w A2 m c2 ys) (hx : All W xs) (hy : All W ys) (hn : n ≤ 4294967296) (hm : m ≤ 4294967296) :
    Calls Tryd.prog 11 #[.slice A n c, .slice A2 m c2] w (Keeps (.int .i64 (cmpN (val W xs) (val W ys))) w) := by
  have H := Lib.hid h
  have H' := Lib.hid h'
  have HX := Lib.hid hx
  have HY := Lib.hid hy
  clear h h' hx hy
  go_enter Tryd.func11, Tryd.ntmps11
  go_wp2_with fail
  refine (digits1_num H.out HX.out (by omega)).mono ?_
  rintro e w1 ⟨A_a, n_a, c_a, xs_a, rfl, o_a, a_a, v_a, hb1, l_a⟩
  have V_a := Lib.hid v_a
  clear v_a
  go_wp2_with fail
  refine (digits1_num (H'.out.below hb1) HY.out (by omega)).mono ?_
  rintro e w2 ⟨A_b, n_b, c_b, xs_b, rfl, o_b, a_b, v_b, hb2, l_b⟩
  have V_b := Lib.hid v_b
  clear v_b
  go_wp2_with fail
  refine (compare1_any ((o_a.dig a_a V_a.out l_a).below hb2) (o_b.dig a_b V_b.out l_b) (by omega) (by omega)).mono ?_
  rintro e w' ⟨rfl, rfl⟩
  go_wp2
  go_ret
  exact ⟨rfl, (bt hb1 hb2)⟩

theorem nb_mod_one {x i : Nat} (h : x / 2 ^ i % 2 = 1) : nb (x % 2 ^ (i + 1)) = i + 1 := by
  have e : x % 2 ^ (i + 1) = x % 2 ^ i + 2 ^ i * (x / 2 ^ i % 2) := by rw [Nat.pow_succ, Nat.mod_mul]
  have := Nat.mod_lt x (two_pos i)
  rw [e, h]
  exact nb_uniq (by omega) (by rw [Nat.pow_succ]; omega)
theorem mod_zero {x i : Nat} (h : x / 2 ^ i % 2 = 0) : x % 2 ^ (i + 1) = x % 2 ^ i := by
  rw [Nat.pow_succ, Nat.mod_mul, h]; simp
set_option maxHeartbeats 1000000 in
theorem rbits1_any {A : Option Addr} {n c : Nat} {xs : List Nat} {w : World} (h : Rd .u64 w A n c xs) (hx : All W xs) (hn : n ≤ 4294967296) :
    Calls Tryd.prog 13 #[.slice A n c] w (Keeps (.int .i64 ((nb (val W xs) : Nat) : Int)) w) := by
  have H := Lib.hid h
  have HX := Lib.hid hx
  obtain ⟨X, hX⟩ : ∃ X, X = val W xs := ⟨_, rfl⟩
  have HXV := Lib.hid hX
  rw [← hX]
  clear h hx hX
  go_enter Tryd.func13, Tryd.ntmps13
  go_wp2_with fail
  refine (digits1_num H.out HX.out (by omega)).mono ?_
  rintro e w1 ⟨A_d, n_d, c_d, xs_d, rfl, o_d, a_d, v_d, hb1, l_d⟩
  have V_d := Lib.hid v_d
  clear v_d
  rw [← HXV.out] at V_d
  have HLT : Hid (X < 2 ^ (16 * n_d)) := by
    show _ < _
    rw [← V_d.out, ← D_two, ← o_d.len]
    exact val_lt a_d
  have HD := Lib.hid (o_d.dig a_d V_d.out (Nat.le_refl _))
  have HB := Lib.hid hb1
  clear o_d a_d V_d hb1
  go_wp2
  go_loop [4, 5] (fun mv iv => ∃ i m : Nat, Hid (m = nb (X % 2 ^ i)) ∧ m ≤ i ∧ i ≤ 16 * n_d ∧ mv = .int .i64 m ∧ iv = .int .i64 i) (fun _ iv => 16 * n_d - (intOf iv).toNat)
  case atStart => exact ⟨0, 0, by show _ = _; simp [nb, Nat.mod_one], Nat.le_refl _, by omega, rfl, rfl⟩
  case round =>
    obtain ⟨i, m, hI, hm, hi, rfl, rfl⟩ := hrel
    by_cases hlt : i < 16 * n_d
    · have C := Lib.hid (bit1_any (w := w1) (i := i) HD.out rfl (by omega) (by omega))
      have hbt : X / 2 ^ i % 2 = 0 ∨ X / 2 ^ i % 2 = 1 := by omega
      rcases hbt with hbt | hbt
      · rw [hbt] at C
        have HN : Hid (m = nb (X % 2 ^ (i + 1))) := by show _ = _; rw [mod_zero hbt]; exact hI.out
        clear hbt hI
        go_wp2_with fail
        refine C.out.mono ?_
        rintro e w' ⟨rfl, rfl⟩
        go_wp2
        go_round
        case rel => exact ⟨i + 1, m, HN.out, by omega, by omega, rfl, by go_num⟩
        case measure => simp [intOf]; omega
      · rw [hbt] at C
        have HN : Hid (i + 1 = nb (X % 2 ^ (i + 1))) := (nb_mod_one hbt).symm
        clear hbt hI
        go_wp2_with fail
        refine C.out.mono ?_
        rintro e w' ⟨rfl, rfl⟩
        go_wp2
        go_round
        case rel => exact ⟨i + 1, i + 1, HN.out, by omega, by omega, by go_num, by go_num⟩
        case measure => simp [intOf]; omega
    · obtain rfl : i = 16 * n_d := by omega
      go_wp2
      go_ret
      have e := hI.out
      rw [Nat.mod_eq_of_lt HLT.out] at e
      rw [← e]
      exact ⟨rfl, HB.out⟩

/-- how often 2 divides -/
def tzn (x : Nat) : Nat := if x = 0 then 0 else Lib.ctzFrom x x
theorem tzn_uniq {x t m : Nat} (h : x = 2 ^ t * (2 * m + 1)) : tzn x = t := by
  have hx : 0 < x := by rw [h]; exact Nat.mul_pos (two_pos t) (by omega)
  obtain ⟨k, hk, _⟩ := Lib.ctzFrom_spec x x hx (Nat.lt_two_pow_self)
  rw [tzn, if_neg (by omega)]
  generalize Lib.ctzFrom x x = s at *
  rw [h] at hk
  have key : ∀ a b p q : Nat, a < b → 2 ^ a * (2 * p + 1) = 2 ^ b * (2 * q + 1) → False := by
    intro a b p q hab he
    obtain ⟨d, rfl⟩ : ∃ d, b = a + (d + 1) := ⟨b - a - 1, by omega⟩
    rw [Nat.pow_add, Nat.mul_assoc] at he
    have := Nat.eq_of_mul_eq_mul_left (two_pos a) he
    rw [Nat.pow_succ, Nat.mul_comm (2 ^ d), Nat.mul_assoc] at this
    omega
  rcases Nat.lt_trichotomy s t with h1 | h1 | h1
  · exact (key _ _ _ _ h1 hk.symm).elim
  · exact h1
  · exact (key _ _ _ _ h1 hk).elim
theorem tzn_bit {x t : Nat} (h0 : x % 2 ^ t = 0) (h1 : x / 2 ^ t % 2 = 1) : tzn x = t := by
  refine tzn_uniq (m := x / 2 ^ t / 2) ?_
  have a := Nat.div_add_mod x (2 ^ t)
  have b := Nat.div_add_mod (x / 2 ^ t) 2
  rw [h0, Nat.add_zero] at a
  rw [h1] at b
  rw [b]
  exact a.symm
set_option maxHeartbeats 1000000 in
theorem rzeros1_any {A : Option Addr} {n c : Nat} {xs : List Nat} {w : World} (h : Rd .u64 w A n c xs) (hx : All W xs) (hn : n ≤ 4294967296) :
    Calls Tryd.prog 15 #[.slice A n c] w (Keeps (.int .i64 ((tzn (val W xs) : Nat) : Int)) w) := by
  have H := Lib.hid h
  have HX := Lib.hid hx
  obtain ⟨X, hX⟩ : ∃ X, X = val W xs := ⟨_, rfl⟩
  have HXV := Lib.hid hX
  rw [← hX]
  clear h hx hX
  go_enter Tryd.func15, Tryd.ntmps15
  go_wp2_with fail
  refine (digits1_num H.out HX.out (by omega)).mono ?_
  rintro e w1 ⟨A_d, n_d, c_d, xs_d, rfl, o_d, a_d, v_d, hb1, l_d⟩
  have V_d := Lib.hid v_d
  clear v_d
  rw [← HXV.out] at V_d
  have HLT : Hid (X < 2 ^ (16 * n_d)) := by
    show _ < _
    rw [← V_d.out, ← D_two, ← o_d.len]
    exact val_lt a_d
  have HD := Lib.hid (o_d.dig a_d V_d.out (Nat.le_refl _))
  have HB := Lib.hid hb1
  clear o_d a_d V_d hb1
  go_wp2
  go_loop [4] (fun iv => ∃ i : Nat, Hid (X % 2 ^ i = 0) ∧ i ≤ 16 * n_d ∧ iv = .int .i64 i) (fun iv => 16 * n_d - (intOf iv).toNat)
  case atStart => exact ⟨0, by show _ = _; simp [Nat.mod_one], by omega, rfl⟩
  case round =>
    obtain ⟨i, hI, hi, rfl⟩ := hrel
    by_cases hlt : i < 16 * n_d
    · have C := Lib.hid (bit1_any (w := w1) (i := i) HD.out rfl (by omega) (by omega))
      have hbt : X / 2 ^ i % 2 = 0 ∨ X / 2 ^ i % 2 = 1 := by omega
      rcases hbt with hbt | hbt
      · rw [hbt] at C
        have HN : Hid (X % 2 ^ (i + 1) = 0) := by show _ = _; rw [mod_zero hbt]; exact hI.out
        clear hbt hI
        go_wp2_with fail
        refine C.out.mono ?_
        rintro e w' ⟨rfl, rfl⟩
        go_wp2
        go_round
        case rel => exact ⟨i + 1, HN.out, by omega, by go_num⟩
        case measure => simp [intOf]; omega
      · rw [hbt] at C
        have HN : Hid (tzn X = i) := tzn_bit hI.out hbt
        clear hbt hI
        go_wp2_with fail
        refine C.out.mono ?_
        rintro e w' ⟨rfl, rfl⟩
        go_wp2
        go_ret
        rw [HN.out]
        exact ⟨rfl, HB.out⟩
    · obtain rfl : i = 16 * n_d := by omega
      go_wp2
      go_ret
      have e := hI.out
      rw [Nat.mod_eq_of_lt HLT.out] at e
      rw [e]
      exact ⟨rfl, HB.out⟩
end Go.Proofs.YtgiecdokjmcogaaDoor
