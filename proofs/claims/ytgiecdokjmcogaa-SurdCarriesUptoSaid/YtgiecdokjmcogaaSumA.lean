/-
  The reference of layer 1: surdref01.from, Add, Sub, MulAdd, DivOne; surdlaw01.copied.
-/
import Derived.Test.YtgiecdokjmcogaaFixed
namespace Go.Proofs.Ytgiecdokjmcogaa
open Go.RowKit
set_option linter.unusedVariables false

theorem Own.lit0 {k : IntKind} {t : TypeId} {B : Nat} (w : World) (hB : B ≤ w.heap.size) : Own k t B (w.alloc (.cells #[] t)) (some ⟨w.heap.size, 0, none⟩) 0 0 [] :=
  Own.lit (k := k) (t := t) w [] (by simp [maxLen]) hB

set_option maxHeartbeats 400000 in
theorem copied_any {A : Option Addr} {n c : Nat} {xs : List Nat} {w : World} (h : Rd .u64 w A n c xs) (hn : n ≤ 1099511627776) :
    Calls Try.prog 26 #[.slice A n c] w (Gives .u64 25 w xs) := by
  have H := Lib.hid h
  have HE := Lib.hid elW
  clear h
  go_enter Try.func26, Try.ntmps26
  go_wp2_with (at_builtin; (refine wpList_app rfl (.tmp 3) (.tmp 4) rfl HE.out (t := 25) (k := .u64) (B := w.heap.size) (xs := []) (ys := xs) rfl rfl (Own.lit0 w (Nat.le_refl _)) (H.out.alloc _) (by omega) (by simp) ?_); intro B1 e1 w1 ho1 hb1 _ _)
  go_ret
  rw [Nat.zero_add] at ho1
  exact ⟨_, _, _, rfl, ho1, (belowA _ _).trans hb1⟩

set_option maxHeartbeats 400000 in
theorem from1_any {v : Value} {x L i : Nat} {i' : Int} {w : World} (h : Dgs w v x L) (hi : i' = (i : Int)) (hL : L ≤ 1099511627776) :
    Calls Try.prog 109 #[v, .int .i64 i'] w (GG w (x / D ^ i) L) := by
  subst hi
  obtain ⟨A, n, c, xs, rfl, h1, h2, h3, h4⟩ := h
  subst h3
  by_cases hlt : i < n
  · have hc := h1.cap
    obtain ⟨b, off, ea, _, _⟩ := h1.at hlt
    subst ea
    have R0 := h1.from_ (j := i) (by omega)
    rw [if_neg (by omega)] at R0
    have R1 : Hid (Rd .i64 w (some ⟨b, off + i, none⟩) (n - i) (c - i) (xs.drop i)) := by
      show Rd _ _ _ _ _ _
      have e := addo b off i
      rw [← e]
      exact R0
    clear R0
    have HE := Lib.hid elI
    have HV : Hid (val D (xs.drop i) = val D xs / D ^ i) := by
      show _ = _
      have a := val_append (b := D) (xs.take i) (xs.drop i)
      have b := val_take_lt h2 D_pos i
      rw [List.take_append_drop, List.length_take, Nat.min_eq_left (by have := h1.len; omega)] at a
      rw [a, Nat.add_mul_div_left _ _ (Nat.pow_pos D_pos), Nat.div_eq_of_lt b, Nat.zero_add]
    have HA := Lib.hid (h2.drop i)
    clear h1 h2
    go_enter Try.func109, Try.ntmps109
    go_wp2_with (at_builtin; (refine wpList_app rfl (.tmp 9) (.tmp 12) rfl HE.out (t := 3) (k := .i64) (B := w.heap.size) (xs := []) (ys := xs.drop i) rfl rfl (Own.lit0 w (Nat.le_refl _)) (R1.out.alloc _) (by omega) (by simp) ?_); intro B1 e1 w1 ho1 hb1 _ _)
    go_ret
    rw [Nat.zero_add] at ho1
    exact ⟨_, _, _, _, rfl, ho1, HA.out, HV.out, (belowA _ _).trans hb1, by omega⟩
  · have HV : Hid (val D xs / D ^ i = 0) := by
      show _ = _
      have := val_lt h2
      rw [h1.len] at this
      exact Nat.div_eq_of_lt (Nat.lt_of_lt_of_le this (Nat.pow_le_pow_right D_pos (by omega)))
    clear h1 h2
    go_enter Try.func109, Try.ntmps109
    go_wp2
    go_ret
    exact ⟨none, 0, 0, [], rfl, Own.nil, All.nil, HV.out.symm, Below.refl _ _, by omega⟩
end Go.Proofs.Ytgiecdokjmcogaa
