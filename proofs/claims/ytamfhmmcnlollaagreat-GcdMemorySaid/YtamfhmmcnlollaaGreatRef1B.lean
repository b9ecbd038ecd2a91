/-
  The reference of layer 1: surdref01.Compare, Minus, Words, power.
-/
import Derived.Test.YtamfhmmcnlollaaGreatRef1A
namespace Go.Proofs.YtamfhmmcnlollaaGreat
open Go.RowKit
set_option linter.unusedVariables false

/-- -1, 0, 1 -/
def cmpN (x y : Nat) : Int := if x < y then -1 else if y < x then 1 else 0
theorem val_take_lt {b : Nat} {xs : List Nat} (h : All b xs) (hb : 0 < b) (m : Nat) : val b (xs.take m) < b ^ m := by
  have h1 := val_lt (h.take m)
  have h2 : (xs.take m).length ≤ m := by rw [List.length_take]; omega
  exact Nat.lt_of_lt_of_le h1 (Nat.pow_le_pow_right hb h2)
theorem val_take_eq {b : Nat} {xs ys : List Nat} (h : ∀ j, nth xs j = nth ys j) (k : Nat) : val b (xs.take k) = val b (ys.take k) := by
  induction k with
  | zero => simp [val]
  | succ k ih => rw [val_take_succ', val_take_succ', ih, h]
theorem val_eq_nth {b : Nat} {xs ys : List Nat} (h : ∀ j, nth xs j = nth ys j) : val b xs = val b ys := by
  have := val_take_eq (b := b) h (max xs.length ys.length)
  rwa [val_take_ge (by omega), val_take_ge (by omega)] at this
theorem val_lt_nth {b : Nat} {xs ys : List Nat} (hx : All b xs) (hb : 0 < b) {m : Nat} (h : ∀ j, m < j → nth xs j = nth ys j) (hm : nth xs m < nth ys m) : val b xs < val b ys := by
  have key : ∀ d, val b (xs.take (m + 1 + d)) < val b (ys.take (m + 1 + d)) := by
    intro d
    induction d with
    | zero =>
      rw [Nat.add_zero, val_take_succ', val_take_succ']
      have h1 := val_take_lt hx hb m
      have h2 : b ^ m * (nth xs m + 1) ≤ b ^ m * nth ys m := Nat.mul_le_mul_left _ hm
      rw [Nat.mul_add, Nat.mul_one] at h2
      omega
    | succ d ih =>
      rw [← Nat.add_assoc, val_take_succ', val_take_succ', h (m + 1 + d) (by omega)]
      omega
  have := key (max xs.length ys.length)
  rwa [val_take_ge (by omega), val_take_ge (by omega)] at this

set_option maxHeartbeats 1000000 in
theorem compare1_raw {A A2 : Option Addr} {n c m c2 : Nat} {xs ys : List Nat} {w : World} (h : Rd .i64 w A n c xs) (h' : Rd .i64 w A2 m c2 ys) (hx : All D xs) (hy : All D ys) (hn : n ≤ 1099511627776) (hm : m ≤ 1099511627776) :
    Calls Tryz.prog 135 #[.slice A n c, .slice A2 m c2] w (fun e w' => e = .returned (.int .i64 (cmpN (val D xs) (val D ys))) ∧ w = w') := by
  have hmx := fun (ts : Array TypeId) (t : TypeId) => run_max2 (P := Tryz.prog) ts t n m w
  obtain ⟨M, hM⟩ : ∃ M, M = max n m := ⟨_, rfl⟩
  rw [← hM] at hmx
  have H := Lib.hid h
  have H' := Lib.hid h'
  have HX := Lib.hid hx
  have HY := Lib.hid hy
  clear h h' hx hy
  go_enter Tryz.func135, Tryz.ntmps135
  go_wp2
  go_loop [5] (fun iv => ∃ k : Nat, Hid (∀ j, k ≤ j → nth xs j = nth ys j) ∧ k ≤ M ∧ iv = .int .i64 ((k : Int) - 1)) (fun iv => (intOf iv + 1).toNat)
  case atStart =>
    refine ⟨M, fun j hj => ?_, Nat.le_refl _, ?_⟩
    · rw [nth_ge (by rw [H.out.len]; omega), nth_ge (by rw [H'.out.len]; omega)]
    · rw [← hM]
  case round =>
    obtain ⟨k, hI, hk, rfl⟩ := hrel
    by_cases hk0 : 0 < k
    · obtain ⟨p, rfl⟩ : ∃ p, k = p + 1 := ⟨k - 1, by omega⟩
      have em : ((p + 1 : Nat) : Int) - 1 = (p : Int) := by omega
      rw [em]
      clear em
      have c1 := Lib.hid (digit1_any (w := w) (A := A) (c := c) (i := p) H.out rfl (by omega))
      have c2 := Lib.hid (digit1_any (w := w) (A := A2) (c := c2) (i := p) H'.out rfl (by omega))
      go_wp2_with fail
      refine c1.out.mono ?_
      rintro e w' ⟨rfl, rfl⟩
      go_wp2_with fail
      refine c2.out.mono ?_
      rintro e w' ⟨rfl, rfl⟩
      by_cases h1 : nth xs p < nth ys p
      · go_wp2
        go_ret
        have e0 : cmpN (val D xs) (val D ys) = -1 := by rw [cmpN, if_pos (val_lt_nth HX.out D_pos (fun j hj => hI.out j hj) h1)]
        rw [e0]
        exact ⟨rfl, rfl⟩
      · by_cases h2 : nth ys p < nth xs p
        · go_wp2
          go_ret
          have := val_lt_nth HY.out D_pos (fun j hj => (hI.out j hj).symm) h2
          have e0 : cmpN (val D xs) (val D ys) = 1 := by rw [cmpN, if_neg (by omega), if_pos this]
          rw [e0]
          exact ⟨rfl, rfl⟩
        · go_wp2
          go_round
          case rel =>
            refine ⟨p, fun j hj => ?_, by omega, by go_num⟩
            by_cases hjp : j = p
            · subst hjp; omega
            · exact hI.out j (by omega)
          case measure => simp [intOf]
    · obtain rfl : k = 0 := by omega
      go_wp2
      go_ret
      have := val_eq_nth (b := D) (fun j => hI.out j (Nat.zero_le _))
      have e0 : cmpN (val D xs) (val D ys) = 0 := by rw [cmpN, if_neg (by omega), if_neg (by omega)]
      rw [e0]
      exact ⟨rfl, rfl⟩
theorem compare1_any {v v2 : Value} {x y L M : Nat} {w : World} (h : Dgs w v x L) (h' : Dgs w v2 y M) (hL : L ≤ 1099511627776) (hM : M ≤ 1099511627776) :
    Calls Tryz.prog 135 #[v, v2] w (fun e w' => e = .returned (.int .i64 (cmpN x y)) ∧ w = w') := by
  obtain ⟨A, n, c, xs, rfl, h1, h2, h3, h4⟩ := h
  obtain ⟨A2, m, c2, ys, rfl, g1, g2, g3, g4⟩ := h'
  subst h3 g3
  exact compare1_raw h1 g1 h2 g2 (by omega) (by omega)

/-- i digits of the difference are done -/
def MinJ (xs ys : List Nat) (i cn : Nat) (outs : List Nat) : Prop :=
  All D outs ∧ outs.length = i ∧ cn ≤ 1 ∧ val D (xs.take i) + D ^ i * cn = val D outs + val D (ys.take i)
theorem MinJ.step {xs ys : List Nat} {i cn z cn' : Nat} {outs : List Nat} (h : MinJ xs ys i cn outs) (hz : z < 65536) (hc : cn' ≤ 1) (he : nth xs i + 65536 * cn' = z + nth ys i + cn) : MinJ xs ys (i + 1) cn' (outs ++ [z]) := by
  obtain ⟨g1, g2, g3, g4⟩ := h
  refine ⟨g1.append (All.cons hz All.nil), by simp [g2], hc, ?_⟩
  rw [val_append, val_take_succ', val_take_succ', g2]
  simp only [val, Nat.mul_zero, Nat.add_zero]
  have e2 : D ^ i * (nth xs i + 65536 * cn') = D ^ i * (z + nth ys i + cn) := by rw [he]
  rw [Nat.mul_add, Nat.mul_add, Nat.mul_add, ← Nat.mul_assoc] at e2
  rw [Nat.pow_succ, D_eq] at *
  omega
theorem MinJ.done {xs ys : List Nat} {n cn : Nat} {outs : List Nat} (h : MinJ xs ys n cn outs) (h1 : xs.length = n) (hx : All D xs) (hy : All D ys) (hle : val D ys ≤ val D xs) :
    All D outs ∧ val D outs = val D xs - val D ys := by
  obtain ⟨g1, g2, g3, g4⟩ := h
  rw [val_take_ge (by omega)] at g4
  have a1 := val_lt g1
  have a2 := val_lt hx
  rw [g2] at a1
  rw [h1] at a2
  have a3 : val D ys = val D (ys.take n) + D ^ (ys.take n).length * val D (ys.drop n) := by rw [← val_append, List.take_append_drop]
  have a4 : val D (ys.take n) = val D ys := by
    by_cases hl : ys.length ≤ n
    · exact val_take_ge hl
    · rw [List.length_take, Nat.min_eq_left (by omega)] at a3
      have : val D (ys.drop n) = 0 := by
        rcases Nat.eq_zero_or_pos (val D (ys.drop n)) with h | h
        · exact h
        · have : D ^ n * 1 ≤ D ^ n * val D (ys.drop n) := Nat.mul_le_mul_left _ h
          omega
      rw [a3, this]; simp
  refine ⟨g1, ?_⟩
  have : cn = 0 ∨ cn = 1 := by omega
  rcases this with rfl | rfl
  · omega
  · omega

set_option maxHeartbeats 1000000 in
theorem minus1_raw {A A2 : Option Addr} {n c m c2 : Nat} {xs ys : List Nat} {w : World} (h : Rd .i64 w A n c xs) (h' : Rd .i64 w A2 m c2 ys) (hx : All D xs) (hy : All D ys) (hn : n ≤ 549755813888) (hm : m ≤ 549755813888) (hle : val D ys ≤ val D xs) :
    Calls Tryz.prog 132 #[.slice A n c, .slice A2 m c2] w (GG w (val D xs - val D ys) n) := by
  have H := Lib.hid h
  have H' := Lib.hid h'
  have HX := Lib.hid hx
  have HY := Lib.hid hy
  have HE := Lib.hid elI
  have HL := Lib.hid hle
  clear h h' hx hy hle
  go_enter Tryz.func132, Tryz.ntmps132
  go_wp2
  go_loopw [5, 6, 7] (fun d cv iv wr => ∃ (i cn : Nat) (B : Option Addr) (e : Nat) (outs : List Nat), Hid (MinJ xs ys i cn outs ∧ Own .i64 3 w.heap.size wr B i e outs ∧ Below w.heap.size w wr) ∧ i ≤ n ∧ cn ≤ 1 ∧ d = .slice B i e ∧ cv = .int .i64 cn ∧ iv = .int .i64 i) (fun _ _ iv _ => n - (intOf iv).toNat)
  case atStart => exact ⟨0, 0, none, 0, [], ⟨⟨All.nil, rfl, by omega, by simp [val]⟩, Own.nil, Below.refl _ _⟩, by omega, by omega, rfl, rfl, rfl⟩
  case round =>
    obtain ⟨i, cn, B, e, outs, hI, hi, hcn, rfl, rfl, rfl⟩ := hrel
    by_cases hlt : i < n
    · have c1' := Lib.hid (digit1_any (w := wr) (A := A) (c := c) (i := i) (H.out.below hI.out.2.2) rfl (by omega))
      have c2' := Lib.hid (digit1_any (w := wr) (A := A2) (c := c2) (i := i) (H'.out.below hI.out.2.2) rfl (by omega))
      have b1 : nth xs i < 65536 := HX.out.nth D_pos i
      have b2 : nth ys i < 65536 := HY.out.nth D_pos i
      have HS : Hid (∀ z cn', z < 65536 → cn' ≤ 1 → nth xs i + 65536 * cn' = z + nth ys i + cn → MinJ xs ys (i + 1) cn' (outs ++ [z])) := fun z cn' h1 h2 h3 => hI.out.1.step h1 h2 h3
      generalize nth xs i = xi at *
      generalize nth ys i = yi at *
      go_wp2_with fail
      refine c1'.out.mono ?_
      rintro e w' ⟨rfl, rfl⟩
      go_wp2_with fail
      refine c2'.out.mono ?_
      rintro e w' ⟨rfl, rfl⟩
      by_cases hb : xi < yi + cn
      · have e1 : Hid ((xi : Int) - (yi : Int) - (cn : Int) + 65536 = ((xi + 65536 - yi - cn : Nat) : Int)) := by show _ = _; omega
        go_wp2_with (at_builtin; rw [e1.out]; (refine wpList_app rfl (.tmp 28) (.tmp 30) rfl HE.out (t := 3) (k := .i64) (B := w.heap.size) (ys := [xi + 65536 - yi - cn]) rfl rfl (hI.out.2.1.alloc _) (Rd.lit1 wr _) (by omega) (by have := hI.out.2.2.size; simp; omega) ?_); intro B1 e1 w1 ho1 hb1 _ _)
        go_roundw
        case rel =>
          refine ⟨i + 1, 1, B1, e1, _, ⟨HS.out (xi + 65536 - yi - cn) 1 (by omega) (by omega) (by omega), ho1, (hI.out.2.2.alloc hI.out.2.2.size _).trans hb1⟩, by omega, by omega, rfl, rfl, by go_num⟩
        case measure => simp [intOf]; omega
      · have e1 : Hid ((xi : Int) - (yi : Int) - (cn : Int) = ((xi - yi - cn : Nat) : Int)) := by show _ = _; omega
        go_wp2_with (at_builtin; rw [e1.out]; (refine wpList_app rfl (.tmp 28) (.tmp 30) rfl HE.out (t := 3) (k := .i64) (B := w.heap.size) (ys := [xi - yi - cn]) rfl rfl (hI.out.2.1.alloc _) (Rd.lit1 wr _) (by omega) (by have := hI.out.2.2.size; simp; omega) ?_); intro B1 e1 w1 ho1 hb1 _ _)
        go_roundw
        case rel =>
          refine ⟨i + 1, 0, B1, e1, _, ⟨HS.out (xi - yi - cn) 0 (by omega) (by omega) (by omega), ho1, (hI.out.2.2.alloc hI.out.2.2.size _).trans hb1⟩, by omega, by omega, rfl, rfl, by go_num⟩
        case measure => simp [intOf]; omega
    · obtain rfl : i = n := by omega
      have hD := Lib.hid (hI.out.1.done H.out.len HX.out HY.out HL.out)
      go_wp2
      go_ret
      exact ⟨_, _, _, _, rfl, hI.out.2.1, hD.out.1, hD.out.2, hI.out.2.2, Nat.le_refl _⟩
theorem minus1_any {v v2 : Value} {x y L M : Nat} {w : World} (h : Dgs w v x L) (h' : Dgs w v2 y M) (hL : L ≤ 549755813888) (hM : M ≤ 549755813888) (hle : y ≤ x) :
    Calls Tryz.prog 132 #[v, v2] w (GG w (x - y) L) := by
  obtain ⟨A, n, c, xs, rfl, h1, h2, h3, h4⟩ := h
  obtain ⟨A2, m, c2, ys, rfl, g1, g2, g3, g4⟩ := h'
  subst h3 g3
  exact (minus1_raw h1 g1 h2 g2 (by omega) (by omega) hle).mono fun e w' ⟨A, n, c, xs, e1, e2, e3, e4, e5, e6⟩ => ⟨A, n, c, xs, e1, e2, e3, e4, e5, by omega⟩
end Go.Proofs.YtamfhmmcnlollaaGreat
