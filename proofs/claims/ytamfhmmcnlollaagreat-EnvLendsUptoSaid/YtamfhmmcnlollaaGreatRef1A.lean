/-
  The reference of layer 1: surdref01.Digits, digit, Plus, Compare, Minus.
-/
import Derived.Test.YtamfhmmcnlollaaGreatRef3D
namespace Go.Proofs.YtamfhmmcnlollaaGreat
open Go.RowKit
set_option linter.unusedVariables false

/-- the value v reads as digits of the number x, at most L of them -/
def Dgs (w : World) (v : Value) (x L : Nat) : Prop := ∃ A n c xs, v = .slice A n c ∧ Rd .i64 w A n c xs ∧ All D xs ∧ val D xs = x ∧ n ≤ L
theorem Dgs.below {w w' : World} {v : Value} {x L : Nat} (h : Dgs w v x L) (hb : Below w.heap.size w w') : Dgs w' v x L := by
  obtain ⟨A, n, c, xs, h1, h2, h3⟩ := h
  exact ⟨A, n, c, xs, h1, h2.below hb, h3⟩
theorem Dgs.lt {w : World} {v : Value} {x L : Nat} (h : Dgs w v x L) : x < D ^ L := by
  obtain ⟨A, n, c, xs, h1, h2, h3, h4, h5⟩ := h
  have := val_lt h3
  rw [h2.len, h4] at this
  exact Nat.lt_of_lt_of_le this (Nat.pow_le_pow_right D_pos h5)
theorem Own.dig {t : TypeId} {B n c x L : Nat} {w : World} {A : Option Addr} {xs : List Nat} (h : Own .i64 t B w A n c xs) (ha : All D xs) (hv : val D xs = x) (hl : n ≤ L) : Dgs w (.slice A n c) x L := ⟨A, n, c, xs, rfl, h.rd, ha, hv, hl⟩

set_option maxHeartbeats 1000000 in
theorem digits1_any {A : Option Addr} {n c : Nat} {xs : List Nat} {w : World} (h : Rd .u64 w A n c xs) (hx : All W xs) (hn : n ≤ 137438953472) :
    Calls Tryz.prog 138 #[.slice A n c] w (fun e w' => ∃ A n c, e = .returned (.slice A n c) ∧ Own .i64 3 w.heap.size w' A n c (xs.flatMap (wds D 4)) ∧ Below w.heap.size w w') := by
  have H := Lib.hid h
  have HX := Lib.hid hx
  have HE := Lib.hid elI
  clear h hx
  go_enter Tryz.func138, Tryz.ntmps138
  go_wp2
  go_loopw [3, 4] (fun d i wr => ∃ (k : Nat) (B : Option Addr) (m e : Nat), Hid (Own .i64 3 w.heap.size wr B m e ((xs.take k).flatMap (wds D 4)) ∧ Below w.heap.size w wr) ∧ k ≤ n ∧ d = .slice B m e ∧ i = .int .i64 k) (fun _ i _ => n - (intOf i).toNat)
  case atStart => exact ⟨0, none, 0, 0, ⟨Own.nil, Below.refl _ _⟩, Nat.zero_le _, rfl, rfl⟩
  case round =>
    obtain ⟨k, B, m, e, hI, hk, rfl, rfl⟩ := hrel
    by_cases hlt : k < n
    · obtain ⟨b, off, ea, hb, hca⟩ := (H.out.below hI.out.2).at hlt
      subst ea
      go_wp2
      go_loopw [3, 5, 6] (fun d wv i wr => ∃ (j : Nat) (B : Option Addr) (m e : Nat), Hid (Own .i64 3 w.heap.size wr B m e ((xs.take k).flatMap (wds D 4) ++ wds D j (nth xs k)) ∧ Below w.heap.size w wr) ∧ j ≤ 4 ∧ d = .slice B m e ∧ wv = .int .u64 ((nth xs k / D ^ j : Nat) : Int) ∧ i = .int .i64 j) (fun _ _ i _ => 4 - (intOf i).toNat)
      case atStart => exact ⟨0, B, m, e, ⟨by simpa [wds] using hI.out.1, hI.out.2⟩, by omega, rfl, by simp, rfl⟩
      case round =>
        obtain ⟨j, B, m, e, hJ, hj, rfl, rfl, rfl⟩ := hrel
        by_cases hlt2 : j < 4
        · have hsz : Hid (m = 4 * k + j) := by
            show m = _
            have := hJ.out.1.len
            rw [List.length_append, flat_length, wds_length, List.length_take, H.out.len] at this
            omega
          have HU : Hid (nth xs k / D ^ j < 18446744073709551616) := Nat.lt_of_le_of_lt (Nat.div_le_self _ _) (HX.out.nth W_pos k)
          have HQ : Hid (nth xs k / D ^ (j + 1) = nth xs k / D ^ j / D) := by show _ = _; rw [Nat.pow_succ, Nat.div_div_eq_div_mul]
          have HS := Lib.hid (wds_snoc (b := D) j (nth xs k))
          generalize nth xs k / D ^ j = u at *
          have e1 : (u : Int) % 65536 = ((u % D : Nat) : Int) := by rw [D_eq]; omega
          go_wp2_with (at_builtin; rw [e1]; (refine wpList_app rfl (.tmp 21) (.tmp 25) rfl HE.out (t := 3) (k := .i64) (B := w.heap.size) (ys := [u % D]) rfl rfl (hJ.out.1.alloc _) (Rd.lit1 wr _) (by have := hsz.out; omega) (by have := hJ.out.2.size; simp; omega) ?_); intro B1 e1 w1 ho1 hb1 _ _)
          go_roundw
          case rel =>
            refine ⟨j + 1, B1, _, e1, ⟨?_, (hJ.out.2.alloc hJ.out.2.size _).trans hb1⟩, by omega, rfl, ?_, by go_num⟩
            · rw [HS.out, ← List.append_assoc]
              exact ho1
            · have e2 : IntKind.u64.wrap ((u : Int) / 65536) = ((u / 65536 : Nat) : Int) := by
                rw [show (u : Int) / 65536 = ((u / 65536 : Nat) : Int) by omega]; exact wrapN _ (by have := HU.out; omega)
              rw [HQ.out, D_eq]
              first | rw [e2] | rfl
          case measure => simp [intOf]; omega
        · obtain rfl : j = 4 := by omega
          go_wp2
          go_roundw
          case rel =>
            refine ⟨k + 1, B, _, _, ⟨?_, hJ.out.2⟩, by omega, rfl, by go_num⟩
            rw [flat_take_succ (by rw [H.out.len]; exact hlt)]
            exact hJ.out.1
          case measure => simp [intOf]; omega
    · obtain rfl : k = n := by omega
      go_wp2
      go_ret
      have h := hI.out
      rw [List.take_of_length_le (by rw [H.out.len]; exact Nat.le_refl _)] at h
      exact ⟨_, _, _, rfl, h⟩

set_option maxHeartbeats 400000 in
theorem digit1_any {A : Option Addr} {n c i : Nat} {i' : Int} {xs : List Nat} {w : World} (h : Rd .i64 w A n c xs) (hi : i' = (i : Int)) (hn : n ≤ 1099511627776) :
    Calls Tryz.prog 161 #[.slice A n c, .int .i64 i'] w (fun e w' => e = .returned (.int .i64 ((nth xs i : Nat) : Int)) ∧ w = w') := by
  subst hi
  by_cases hlt : i < n
  · obtain ⟨b, off, ea, hb, hca⟩ := h.at hlt
    subst ea
    clear h
    go_enter Tryz.func161, Tryz.ntmps161
    go_wp2
    go_ret
    exact ⟨rfl, rfl⟩
  · have e := nth_ge (xs := xs) (i := i) (by rw [h.len]; omega)
    have HH := Lib.hid e
    clear h e
    go_enter Tryz.func161, Tryz.ntmps161
    go_wp2
    go_ret
    rw [HH.out]
    exact ⟨rfl, rfl⟩

/-- i digits of the sum are done -/
def PlusJ (xs ys : List Nat) (n m i cn : Nat) (outs : List Nat) : Prop :=
  All D outs ∧ outs.length = i ∧ cn ≤ 1 ∧ i ≤ max n m + 1 ∧ (max n m < i → cn = 0 ∧ D ^ max n m ≤ val D outs) ∧ val D outs + D ^ i * cn = val D (xs.take i) + val D (ys.take i)
theorem PlusJ.step {xs ys : List Nat} {n m i cn : Nat} {outs : List Nat} (h : PlusJ xs ys n m i cn outs) (hx : All D xs) (hy : All D ys) (h1 : xs.length = n) (h2 : ys.length = m) (hgo : i < n ∨ i < m ∨ 0 < cn) :
    PlusJ xs ys n m (i + 1) ((cn + (nth xs i + nth ys i)) / 65536) (outs ++ [(cn + (nth xs i + nth ys i)) % 65536]) := by
  obtain ⟨g1, g2, g3, g4, g5, g6⟩ := h
  have b1 := hx.nth D_pos i
  have b2 := hy.nth D_pos i
  rw [D_eq] at b1 b2
  refine ⟨g1.append (All.cons (Nat.mod_lt _ D_pos) All.nil), by simp [g2], by omega, by omega, ?_, ?_⟩
  · intro hm
    have e1 : nth xs i = 0 := nth_ge (by omega)
    have e2 : nth ys i = 0 := nth_ge (by omega)
    have e3 : ¬ max n m < i := fun h => by have := (g5 h).1; omega
    have e4 : cn = 1 := by omega
    have e5 : i = max n m := by omega
    refine ⟨by omega, ?_⟩
    rw [val_append, g2, e1, e2, e4, ← e5]
    simp only [val]
    omega
  · rw [val_append, val_take_succ', val_take_succ', g2]
    simp only [val, Nat.mul_zero, Nat.add_zero]
    have e := Nat.mod_add_div (cn + (nth xs i + nth ys i)) 65536
    generalize (cn + (nth xs i + nth ys i)) % 65536 = r at *
    generalize (cn + (nth xs i + nth ys i)) / 65536 = q at *
    have e2 : D ^ i * (r + 65536 * q) = D ^ i * (cn + (nth xs i + nth ys i)) := by rw [e]
    rw [Nat.mul_add, Nat.mul_add, Nat.mul_add, ← Nat.mul_assoc] at e2
    rw [Nat.pow_succ, D_eq] at *
    omega
theorem PlusJ.done {xs ys : List Nat} {n m i cn : Nat} {outs : List Nat} (h : PlusJ xs ys n m i cn outs) (h1 : xs.length = n) (h2 : ys.length = m) (hn : ¬ i < n) (hm : ¬ i < m) (hc : ¬ 0 < cn) {K : Nat} (hK : max n m ≤ K) (hV : val D xs + val D ys < D ^ K) :
    All D outs ∧ val D outs = val D xs + val D ys ∧ outs.length ≤ K := by
  obtain ⟨g1, g2, g3, g4, g5, g6⟩ := h
  obtain rfl : cn = 0 := by omega
  rw [val_take_ge (by omega), val_take_ge (by omega)] at g6
  have e : val D outs = val D xs + val D ys := by omega
  refine ⟨g1, e, ?_⟩
  by_cases hi : max n m < i
  · have h := (g5 hi).2
    have := (Nat.pow_lt_pow_iff_right D_gt).1 (Nat.lt_of_le_of_lt h (by rw [e]; exact hV))
    omega
  · omega

end Go.Proofs.YtamfhmmcnlollaaGreat
