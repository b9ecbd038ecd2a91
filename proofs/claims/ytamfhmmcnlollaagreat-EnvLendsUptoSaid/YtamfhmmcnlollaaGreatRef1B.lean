/-
  The reference of layer 1: surdref01.Compare, Minus, Words, power.
-/
import Derived.Test.YtamfhmmcnlollaaGreatRef1A
namespace Go.Proofs.YtamfhmmcnlollaaGreat
open Go.RowKit
set_option linter.unusedVariables false

/-- -1, 0, 1 -/
def cmpN (x y : Nat) : Int := if x < y then -1 else if y < x then 1 else 0
theorem val_take_lt {b : Nat} {xs : List Nat} (h : All b xs) (hb : 0 < b) (m : Nat) : val b (xs.take m) < b ^ m := by
  have h1 := val_lt (h.take m)
  have h2 : (xs.take m).length ≤ m := by rw [List.length_take]; omega
  exact Nat.lt_of_lt_of_le h1 (Nat.pow_le_pow_right hb h2)
theorem val_take_eq {b : Nat} {xs ys : List Nat} (h : ∀ j, nth xs j = nth ys j) (k : Nat) : val b (xs.take k) = val b (ys.take k) := by
  induction k with
  | zero => simp [val]
  | succ k ih => rw [val_take_succ', val_take_succ', ih, h]
theorem val_eq_nth {b : Nat} {xs ys : List Nat} (h : ∀ j, nth xs j = nth ys j) : val b xs = val b ys := by
  have := val_take_eq (b := b) h (max xs.length ys.length)
  rwa [val_take_ge (by omega), val_take_ge (by omega)] at this
theorem val_lt_nth {b : Nat} {xs ys : List Nat} (hx : All b xs) (hb : 0 < b) {m : Nat} (h : ∀ j, m < j → nth xs j = nth ys j) (hm : nth xs m < nth ys m) : val b xs < val b ys := by
  have key : ∀ d, val b (xs.take (m + 1 + d)) < val b (ys.take (m + 1 + d)) := by
    intro d
    induction d with
    | zero =>
      rw [Nat.add_zero, val_take_succ', val_take_succ']
      have h1 := val_take_lt hx hb m
      have h2 : b ^ m * (nth xs m + 1) ≤ b ^ m * nth ys m := Nat.mul_le_mul_left _ hm
      rw [Nat.mul_add, Nat.mul_one] at h2
      omega
    | succ d ih =>
      rw [← Nat.add_assoc, val_take_succ', val_take_succ', h (m + 1 + d) (by omega)]
      omega
  have := key (max xs.length ys.length)
  rwa [val_take_ge (by omega), val_take_ge (by omega)] at this

set_option maxHeartbeats 1000000 in
theorem compare1_raw {A A2 : Option Addr} {n c m c2 : Nat} {xs ys : List Nat} {w : World} (h : Rd .i64 w A n c xs) (h' : Rd .i64 w A2 m c2 ys) (hx : All D xs) (hy : All D ys) (hn : n ≤ 1099511627776) (hm : m ≤ 1099511627776) :
    Calls Tryz.prog 135 #[.slice A n c, .slice A2 m c2] w (fun e w' => e = .returned (.int .i64 (cmpN (val D xs) (val D ys))) ∧ w = w') := by
  have hmx := fun (ts : Array TypeId) (t : TypeId) => run_max2 (P := Tryz.prog) ts t n m w
  obtain ⟨M, hM⟩ : ∃ M, M = max n m := ⟨_, rfl⟩
  rw [← hM] at hmx
  have H := Lib.hid h
  have H' := Lib.hid h'
  have HX := Lib.hid hx
  have HY := Lib.hid hy
  clear h h' hx hy
  go_enter Tryz.func135, Tryz.ntmps135
  go_wp2
  go_loop [5] (fun iv => ∃ k : Nat, Hid (∀ j, k ≤ j → nth xs j = nth ys j) ∧ k ≤ M ∧ iv = .int .i64 ((k : Int) - 1)) (fun iv => (intOf iv + 1).toNat)
  case atStart =>
    refine ⟨M, fun j hj => ?_, Nat.le_refl _, ?_⟩
    · rw [nth_ge (by rw [H.out.len]; omega), nth_ge (by rw [H'.out.len]; omega)]
    · rw [← hM]
  case round =>
    obtain ⟨k, hI, hk, rfl⟩ := hrel
    by_cases hk0 : 0 < k
    · obtain ⟨p, rfl⟩ : ∃ p, k = p + 1 := ⟨k - 1, by omega⟩
      have em : ((p + 1 : Nat) : Int) - 1 = (p : Int) := by omega
      rw [em]
      clear em
      have c1 := Lib.hid (digit1_any (w := w) (A := A) (c := c) (i := p) H.out rfl (by omega))
      have c2 := Lib.hid (digit1_any (w := w) (A := A2) (c := c2) (i := p) H'.out rfl (by omega))
      go_wp2_with fail
      refine c1.out.mono ?_
      rintro e w' ⟨rfl, rfl⟩
      go_wp2_with fail
      refine c2.out.mono ?_
      rintro e w' ⟨rfl, rfl⟩
      by_cases h1 : nth xs p < nth ys p
      · go_wp2
        go_ret
        have e0 : cmpN (val D xs) (val D ys) = -1 := by rw [cmpN, if_pos (val_lt_nth HX.out D_pos (fun j hj => hI.out j hj) h1)]
        rw [e0]
        exact ⟨rfl, rfl⟩
      · by_cases h2 : nth ys p < nth xs p
        · go_wp2
          go_ret
          have := val_lt_nth HY.out D_pos (fun j hj => (hI.out j hj).symm) h2
          have e0 : cmpN (val D xs) (val D ys) = 1 := by rw [cmpN, if_neg (by omega), if_pos this]
          rw [e0]
          exact ⟨rfl, rfl⟩
        · go_wp2
          go_round
          case rel =>
            refine ⟨p, fun j hj => ?_, by omega, by go_num⟩
            by_cases hjp : j = p
            · subst hjp; omega
            · exact hI.out j (by omega)
          case measure => simp [intOf]
    · obtain rfl : k = 0 := by omega
      go_wp2
      go_ret
      have := val_eq_nth (b := D) (fun j => hI.out j (Nat.zero_le _))
      have e0 : cmpN (val D xs) (val D ys) = 0 := by rw [cmpN, if_neg (by omega), if_neg (by omega)]
      rw [e0]
      exact ⟨rfl, rfl⟩
theorem compare1_any {v v2 : Value} {x y L M : Nat} {w : World} (h : Dgs w v x L) (h' : Dgs w v2 y M) (hL : L ≤ 1099511627776) (hM : M ≤ 1099511627776) :
    Calls Tryz.prog 135 #[v, v2] w (fun e w' => e = .returned (.int .i64 (cmpN x y)) ∧ w = w') := by
  obtain ⟨A, n, c, xs, rfl, h1, h2, h3, h4⟩ := h
  obtain ⟨A2, m, c2, ys, rfl, g1, g2, g3, g4⟩ := h'
  subst h3 g3
  exact compare1_raw h1 g1 h2 g2 (by omega) (by omega)

/-- i digits of the difference are done -/
def MinJ (xs ys : List Nat) (i cn : Nat) (outs : List Nat) : Prop :=
  All D outs ∧ outs.length = i ∧ cn ≤ 1 ∧ val D (xs.take i) + D ^ i * cn = val D outs + val D (ys.take i)
theorem MinJ.step {xs ys : List Nat} {i cn z cn' : Nat} {outs : List Nat} (h : MinJ xs ys i cn outs) (hz : z < 65536) (hc : cn' ≤ 1) (he : nth xs i + 65536 * cn' = z + nth ys i + cn) : MinJ xs ys (i + 1) cn' (outs ++ [z]) := by
  obtain ⟨g1, g2, g3, g4⟩ := h
  refine ⟨g1.append (All.cons hz All.nil), by simp [g2], hc, ?_⟩
  rw [val_append, val_take_succ', val_take_succ', g2]
  simp only [val, Nat.mul_zero, Nat.add_zero]
  have e2 : D ^ i * (nth xs i + 65536 * cn') = D ^ i * (z + nth ys i + cn) := by rw [he]
  rw [Nat.mul_add, Nat.mul_add, Nat.mul_add, ← Nat.mul_assoc] at e2
  rw [Nat.pow_succ, D_eq] at *
  omega
theorem MinJ.done {xs ys : List Nat} {n cn : Nat} {outs : List Nat} (h : MinJ xs ys n cn outs) (h1 : xs.length = n) (hx : All D xs) (hy : All D ys) (hle : val D ys ≤ val D xs) :
    All D outs ∧ val D outs = val D xs - val D ys := by
  obtain ⟨g1, g2, g3, g4⟩ := h
  rw [val_take_ge (by omega)] at g4
  have a1 := val_lt g1
  have a2 := val_lt hx
  rw [g2] at a1
  rw [h1] at a2
  have a3 : val D ys = val D (ys.take n) + D ^ (ys.take n).length * val D (ys.drop n) := by rw [← val_append, List.take_append_drop]
  have a4 : val D (ys.take n) = val D ys := by
    by_cases hl : ys.length ≤ n
    · exact val_take_ge hl
    · rw [List.length_take, Nat.min_eq_left (by omega)] at a3
      have : val D (ys.drop n) = 0 := by
        rcases Nat.eq_zero_or_pos (val D (ys.drop n)) with h | h
        · exact h
        · have : D ^ n * 1 ≤ D ^ n * val D (ys.drop n) := Nat.mul_le_mul_left _ h
          omega
      rw [a3, this]; simp
  refine ⟨g1, ?_⟩
  have : cn = 0 ∨ cn = 1 := by omega
  rcases this with rfl | rfl
  · omega
  · omega

end Go.Proofs.YtamfhmmcnlollaaGreat
