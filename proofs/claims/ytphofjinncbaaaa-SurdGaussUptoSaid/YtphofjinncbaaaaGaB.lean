/-
  How often a square's border goes around 0, in plain Lean. gauss.Eighth, Turns. gauss.Square, Values, Around.
-/
import Derived.Test.YtphofjinncbaaaaGaA
namespace Go.Proofs.Ytphofjinncbaaaa
open Go.RowKit
set_option linter.unusedVariables false
set_option linter.unusedSimpArgs false

/-- on which ray, in which quadrant -/
def oct (z : Gz) : Int :=
  if z.2 = 0 then (if 0 < z.1 then 0 else 4) else if z.1 = 0 then (if 0 < z.2 then 2 else 6) else if 0 < z.2 then (if 0 < z.1 then 1 else 3) else (if z.1 < 0 then 5 else 7)
theorem oct_range (z : Gz) : 0 ≤ oct z ∧ oct z ≤ 7 := by unfold oct; repeat' split <;> omega
/-- the step as it is taken -/
def odd8 (a b : Int) : Int := (b - a + 8) % 8
def otw (a b : Int) : Int := if 4 < odd8 a b then odd8 a b - 8 else odd8 a b
/-- .. lifted for steps up and down -/
def oct2 (z : Gz) : Int := if oct z = 7 then -1 else oct z
theorem otw_of {a b d : Int} (ha : 0 ≤ a ∧ a ≤ 7) (hb : 0 ≤ b ∧ b ≤ 7) (hd : b - a = d ∨ b - a = d + 8 ∨ b - a = d - 8) (h1 : -3 ≤ d) (h2 : d ≤ 3) : otw a b = d ∧ odd8 a b ≠ 4 := by
  unfold otw odd8
  split <;> omega
/-- a step to the side -/
theorem otw_side {p q : Gz} (hy : p.2 = q.2) (hx : q.1 = p.1 + 1 ∨ q.1 = p.1 - 1) (hp : p ≠ (0, 0)) (hq : q ≠ (0, 0)) : otw (oct p) (oct q) = oct q - oct p ∧ odd8 (oct p) (oct q) ≠ 4 := by
  obtain ⟨p1, p2⟩ := p
  obtain ⟨q1, q2⟩ := q
  simp only at hy hx
  subst hy
  have h1 : ¬ (p1 = 0 ∧ p2 = 0) := fun h => hp (by rw [h.1, h.2])
  have h2 : ¬ (q1 = 0 ∧ p2 = 0) := fun h => hq (by rw [h.1, h.2])
  refine otw_of (oct_range _) (oct_range _) (.inl rfl) ?_ ?_
  · unfold oct; simp only; repeat' split <;> omega
  · unfold oct; simp only; repeat' split <;> omega
/-- a step up or down -/
theorem otw_up {p q : Gz} (hx : p.1 = q.1) (hy : q.2 = p.2 + 1 ∨ q.2 = p.2 - 1) (hp : p ≠ (0, 0)) (hq : q ≠ (0, 0)) : otw (oct p) (oct q) = oct2 q - oct2 p ∧ odd8 (oct p) (oct q) ≠ 4 := by
  obtain ⟨p1, p2⟩ := p
  obtain ⟨q1, q2⟩ := q
  simp only at hy hx
  subst hx
  have h1 : ¬ (p1 = 0 ∧ p2 = 0) := fun h => hp (by rw [h.1, h.2])
  have h2 : ¬ (p1 = 0 ∧ q2 = 0) := fun h => hq (by rw [h.1, h.2])
  refine otw_of (oct_range _) (oct_range _) ?_ ?_ ?_
  · unfold oct2 oct; simp only; repeat' split <;> omega
  · unfold oct2 oct; simp only; repeat' split <;> omega
  · unfold oct2 oct; simp only; repeat' split <;> omega
theorem oct_diff (z : Gz) : oct z - oct2 z = if 0 < z.1 ∧ z.2 < 0 then 8 else 0 := by
  unfold oct2 oct; repeat' split <;> omega
def sdir : Nat → Gz
  | 0 => (1, 0)
  | 1 => (0, 1)
  | 2 => (-1, 0)
  | 3 => (0, -1)
  | _ => (1, 0)
def scor (X Y : Int) (r : Nat) : Nat → Gz
  | 0 => (X - r, Y - r)
  | 1 => (X + r, Y - r)
  | 2 => (X + r, Y + r)
  | 3 => (X - r, Y + r)
  | _ => (X - r, Y - r)
/-- on side k, j steps from its corner -/
def sq (X Y : Int) (r k j : Nat) : Gz := ((scor X Y r k).1 + (j : Int) * (sdir k).1, (scor X Y r k).2 + (j : Int) * (sdir k).2)
def spt (X Y : Int) (r i : Nat) : Gz := sq X Y r (i / (2 * r)) (i % (2 * r))
def spath (X Y : Int) (r n : Nat) : List Gz := (List.range n).map (spt X Y r)
theorem spath_succ (X Y : Int) (r n : Nat) : spath X Y r (n + 1) = spath X Y r n ++ [spt X Y r n] := by unfold spath; rw [List.range_succ, List.map_append]; rfl
theorem spt_at {X Y : Int} {r k j : Nat} (h : j < 2 * r) : spt X Y r (k * (2 * r) + j) = sq X Y r k j := by
  unfold spt
  rw [Nat.mul_comm k, Nat.mul_add_div (by omega), Nat.div_eq_of_lt h, Nat.add_zero, Nat.mul_add_mod, Nat.mod_eq_of_lt h]
theorem sq_zero (X Y : Int) (r k : Nat) : sq X Y r k 0 = scor X Y r k := by unfold sq; simp
theorem sq_end {X Y : Int} {r k : Nat} (h : k < 4) : sq X Y r k (2 * r) = scor X Y r (k + 1) := by
  match k, h with
  | 0, _ => unfold sq scor sdir; refine gz_ext ?_ ?_ <;> simp <;> omega
  | 1, _ => unfold sq scor sdir; refine gz_ext ?_ ?_ <;> simp <;> omega
  | 2, _ => unfold sq scor sdir; refine gz_ext ?_ ?_ <;> simp <;> omega
  | 3, _ => unfold sq scor sdir; refine gz_ext ?_ ?_ <;> simp <;> omega
theorem sq_step (X Y : Int) (r k j : Nat) : sq X Y r k (j + 1) = gadd (sq X Y r k j) (sdir k) := by
  unfold sq gadd
  refine gz_ext ?_ ?_
  · simp only; rw [Int.natCast_add, Int.add_mul]; simp; omega
  · simp only; rw [Int.natCast_add, Int.add_mul]; simp; omega
theorem spt_end {X Y : Int} {r k : Nat} (hr : 1 ≤ r) (h : k < 4) : spt X Y r (k * (2 * r) + 2 * r) = scor X Y r (k + 1) := by
  have := spt_at (X := X) (Y := Y) (r := r) (k := k + 1) (j := 0) (by omega)
  rw [Nat.add_zero, Nat.succ_mul] at this
  rw [this, sq_zero]
theorem spt_next {X Y : Int} {r k j : Nat} (hr : 1 ≤ r) (hk : k < 4) (h : j < 2 * r) : spt X Y r (k * (2 * r) + j + 1) = sq X Y r k (j + 1) := by
  by_cases h2 : j + 1 < 2 * r
  · rw [Nat.add_assoc, spt_at h2]
  · have e : j + 1 = 2 * r := by omega
    rw [Nat.add_assoc, e, spt_end hr hk, sq_end hk]
/-- nowhere 0 -/
def clear0 (X Y : Int) (r : Nat) : Prop := (X.natAbs < r ∧ Y.natAbs < r) ∨ r < X.natAbs ∨ r < Y.natAbs
theorem sq_ne {X Y : Int} {r k j : Nat} (h : clear0 X Y r) (hj : j ≤ 2 * r) (hk : k < 4) : sq X Y r k j ≠ (0, 0) := by
  intro e
  unfold clear0 at h
  have e1 := congrArg Prod.fst e
  have e2 := congrArg Prod.snd e
  match k, hk with
  | 0, _ => unfold sq scor sdir at e1 e2; simp at e1 e2; omega
  | 1, _ => unfold sq scor sdir at e1 e2; simp at e1 e2; omega
  | 2, _ => unfold sq scor sdir at e1 e2; simp at e1 e2; omega
  | 3, _ => unfold sq scor sdir at e1 e2; simp at e1 e2; omega
theorem spt_ne {X Y : Int} {r i : Nat} (h : clear0 X Y r) (hr : 1 ≤ r) (hi : i < 4 * (2 * r)) : spt X Y r i ≠ (0, 0) := by
  unfold spt
  exact sq_ne h (Nat.le_of_lt (Nat.mod_lt _ (by omega))) (Nat.div_lt_of_lt_mul (by rw [Nat.mul_comm]; exact hi))
/-- on the border there is a 0 -/
theorem spt_hit {X Y : Int} {r : Nat} (hr : 1 ≤ r) (h : ¬ clear0 X Y r) : ∃ i, i < 4 * (2 * r) ∧ spt X Y r i = (0, 0) := by
  unfold clear0 at h
  have hit : ∀ k j, k < 4 → j < 2 * r → sq X Y r k j = (0, 0) → ∃ i, i < 4 * (2 * r) ∧ spt X Y r i = (0, 0) := fun k j hk hj e =>
    ⟨k * (2 * r) + j, by have := Nat.mul_le_mul_right (2 * r) (show k + 1 ≤ 4 by omega); rw [Nat.succ_mul] at this; omega, by rw [spt_at hj]; exact e⟩
  by_cases h1 : Y = r
  · by_cases h2 : X = -r
    · refine hit 1 0 (by omega) (by omega) ?_
      unfold sq scor sdir; refine gz_ext ?_ ?_ <;> simp <;> omega
    · refine hit 0 ((r : Int) - X).toNat (by omega) (by omega) ?_
      unfold sq scor sdir; refine gz_ext ?_ ?_ <;> simp <;> omega
  · by_cases h3 : Y = -r
    · by_cases h2 : X = r
      · refine hit 3 0 (by omega) (by omega) ?_
        unfold sq scor sdir; refine gz_ext ?_ ?_ <;> simp <;> omega
      · refine hit 2 (X + (r : Int)).toNat (by omega) (by omega) ?_
        unfold sq scor sdir; refine gz_ext ?_ ?_ <;> simp <;> omega
    · by_cases h4 : X = r
      · refine hit 3 (Y + (r : Int)).toNat (by omega) (by omega) ?_
        unfold sq scor sdir; refine gz_ext ?_ ?_ <;> simp <;> omega
      · refine hit 1 ((r : Int) - Y).toNat (by omega) (by omega) ?_
        unfold sq scor sdir; refine gz_ext ?_ ?_ <;> simp <;> omega
/-- the steps together -/
def tsum (es : List Int) : Nat → Int
  | 0 => 0
  | k + 1 => tsum es k + otw (zn es k) (zn es ((k + 1) % es.length))
theorem otw_range {a b : Int} (ha : 0 ≤ a ∧ a ≤ 7) (hb : 0 ≤ b ∧ b ≤ 7) : -4 ≤ otw a b ∧ otw a b ≤ 4 := by unfold otw odd8; split <;> omega
section
variable {X Y : Int} {r : Nat}
def soct (X Y : Int) (r : Nat) : List Int := (spath X Y r (4 * (2 * r))).map oct
theorem soct_len : (soct X Y r).length = 4 * (2 * r) := by simp [soct, spath]
theorem soct_at {i : Nat} (h : i < 4 * (2 * r)) : zn (soct X Y r) i = oct (spt X Y r i) := by
  have hl : i < (soct X Y r).length := by rw [soct_len]; exact h
  rw [zn_of (List.getElem?_eq_getElem hl)]
  simp [soct, spath]
theorem spt_wrap (hr : 1 ≤ r) : spt X Y r 0 = spt X Y r (4 * (2 * r)) := by
  have h1 := spt_end (X := X) (Y := Y) hr (show 3 < 4 by omega)
  have h2 := spt_at (X := X) (Y := Y) (r := r) (k := 0) (j := 0) (by omega)
  rw [sq_zero] at h2
  simp only [Nat.zero_mul, Nat.zero_add] at h2
  rw [show 4 * (2 * r) = 3 * (2 * r) + 2 * r by omega, h1, h2]
  rfl
theorem soct_next {i : Nat} (hr : 1 ≤ r) (h : i < 4 * (2 * r)) : zn (soct X Y r) ((i + 1) % (soct X Y r).length) = oct (spt X Y r (i + 1)) := by
  rw [soct_len]
  by_cases h2 : i + 1 < 4 * (2 * r)
  · rw [Nat.mod_eq_of_lt h2, soct_at h2]
  · have e : i + 1 = 4 * (2 * r) := by omega
    rw [e, Nat.mod_self, soct_at (by omega), spt_wrap hr]
def lft (k : Nat) (z : Gz) : Int := if k % 2 = 0 then oct z else oct2 z
theorem sq_turn {k j : Nat} (h : clear0 X Y r) (hk : k < 4) (hj : j < 2 * r) : otw (oct (sq X Y r k j)) (oct (sq X Y r k (j + 1))) = lft k (sq X Y r k (j + 1)) - lft k (sq X Y r k j) ∧ odd8 (oct (sq X Y r k j)) (oct (sq X Y r k (j + 1))) ≠ 4 := by
  have n1 := sq_ne (k := k) h (show j ≤ 2 * r by omega) hk
  have n2 := sq_ne (k := k) h (show j + 1 ≤ 2 * r by omega) hk
  match k, hk with
  | 0, _ => exact otw_side (by rw [sq_step]; simp [gadd, sdir]) (by rw [sq_step]; simp [gadd, sdir]) n1 n2
  | 1, _ => exact otw_up (by rw [sq_step]; simp [gadd, sdir]) (by rw [sq_step]; simp [gadd, sdir]) n1 n2
  | 2, _ => exact otw_side (by rw [sq_step]; simp [gadd, sdir]) (by rw [sq_step]; simp [gadd, sdir]; omega) n1 n2
  | 3, _ => exact otw_up (by rw [sq_step]; simp [gadd, sdir]) (by rw [sq_step]; simp [gadd, sdir]; omega) n1 n2
theorem side_lt {k j : Nat} (hk : k < 4) (hj : j < 2 * r) : k * (2 * r) + j < 4 * (2 * r) := by
  have := Nat.mul_le_mul_right (2 * r) (show k + 1 ≤ 4 by omega)
  rw [Nat.succ_mul] at this
  omega
theorem tsum_side {k : Nat} (h : clear0 X Y r) (hr : 1 ≤ r) (hk : k < 4) : ∀ j, j ≤ 2 * r → tsum (soct X Y r) (k * (2 * r) + j) = tsum (soct X Y r) (k * (2 * r)) + (lft k (sq X Y r k j) - lft k (sq X Y r k 0))
  | 0, _ => by simp
  | j + 1, hj => by
    show tsum (soct X Y r) (k * (2 * r) + j) + otw (zn (soct X Y r) (k * (2 * r) + j)) (zn (soct X Y r) ((k * (2 * r) + j + 1) % (soct X Y r).length)) = _
    rw [tsum_side h hr hk j (by omega), soct_at (side_lt hk (by omega)), soct_next hr (side_lt hk (by omega)), spt_at (by omega), spt_next hr hk (by omega), (sq_turn h hk (by omega)).1]
    omega
theorem step_ok {i : Nat} (h : clear0 X Y r) (hr : 1 ≤ r) (hi : i < 4 * (2 * r)) : odd8 (zn (soct X Y r) i) (zn (soct X Y r) ((i + 1) % (soct X Y r).length)) ≠ 4 := by
  rw [soct_at hi, soct_next hr hi]
  obtain ⟨k, j, hk, hj, rfl⟩ : ∃ k j, k < 4 ∧ j < 2 * r ∧ i = k * (2 * r) + j := ⟨i / (2 * r), i % (2 * r), Nat.div_lt_of_lt_mul (by rw [Nat.mul_comm]; exact hi), Nat.mod_lt _ (by omega), by rw [Nat.mul_comm]; exact (Nat.div_add_mod _ _).symm⟩
  rw [spt_at hj, spt_next hr hk hj]
  exact (sq_turn h hk hj).2
theorem tsum_all (h : clear0 X Y r) (hr : 1 ≤ r) : tsum (soct X Y r) (4 * (2 * r)) = if X.natAbs < r ∧ Y.natAbs < r then 8 else 0 := by
  have s0 := tsum_side h hr (show 0 < 4 by omega) (2 * r) (Nat.le_refl _)
  have s1 := tsum_side h hr (show 1 < 4 by omega) (2 * r) (Nat.le_refl _)
  have s2 := tsum_side h hr (show 2 < 4 by omega) (2 * r) (Nat.le_refl _)
  have s3 := tsum_side h hr (show 3 < 4 by omega) (2 * r) (Nat.le_refl _)
  rw [sq_end (by omega), sq_zero] at s0 s1 s2 s3
  rw [show 0 * (2 * r) + 2 * r = 1 * (2 * r) by omega, show 0 * (2 * r) = 0 by omega, show tsum (soct X Y r) 0 = 0 from rfl] at s0
  rw [show 1 * (2 * r) + 2 * r = 2 * (2 * r) by omega] at s1
  rw [show 2 * (2 * r) + 2 * r = 3 * (2 * r) by omega] at s2
  rw [show 3 * (2 * r) + 2 * r = 4 * (2 * r) by omega] at s3
  rw [s3, s2, s1, s0]
  show 0 + (oct (scor X Y r 1) - oct (scor X Y r 0)) + (oct2 (scor X Y r 2) - oct2 (scor X Y r 1)) + (oct (scor X Y r 3) - oct (scor X Y r 2)) + (oct2 (scor X Y r 0) - oct2 (scor X Y r 3)) = _
  have d0 := oct_diff (scor X Y r 0)
  have d1 := oct_diff (scor X Y r 1)
  have d2 := oct_diff (scor X Y r 2)
  have d3 := oct_diff (scor X Y r 3)
  have e0 : scor X Y r 0 = (X - r, Y - r) := rfl
  have e1 : scor X Y r 1 = (X + r, Y - r) := rfl
  have e2 : scor X Y r 2 = (X + r, Y + r) := rfl
  have e3 : scor X Y r 3 = (X - r, Y + r) := rfl
  rw [e0] at d0; rw [e1] at d1; rw [e2] at d2; rw [e3] at d3
  rw [e0, e1, e2, e3]
  simp only at d0 d1 d2 d3
  unfold clear0 at h
  split <;> (repeat' split at d0 <;> repeat' split at d1 <;> repeat' split at d2 <;> repeat' split at d3) <;> omega
end
end Go.Proofs.Ytphofjinncbaaaa
namespace Go.Proofs.Ytphofjinncbaaaa
open Go.RowKit
set_option linter.unusedVariables false
set_option linter.unusedSimpArgs false

set_option maxHeartbeats 4000000 in
theorem eighth_zero {w : World} : Calls Try.prog 94 #[gv (0, 0)] w (Two 0 1 w) := by
  have C1 := Lib.hid fun (w : World) => gsize_yes (z := (0, 0)) (w := w) (by unfold gsz GM; decide)
  generalize gsz (0, 0) = sz at C1
  go_enter Try.func94, Try.ntmps94
  have e0 := (At.boxc (i := 0) (v := .int .i64 0) (t := 68) (b := w.heap.size) w #[.int .i64 0, .int .i64 0] rfl (by simp)).1
  have e1 := (At.boxc (i := 1) (v := .int .i64 0) (t := 68) (b := w.heap.size) w #[.int .i64 0, .int .i64 0] rfl (by simp)).1
  go_wp2_with fail
  refine (C1.out _).mono ?_
  rintro e w1 ⟨rfl, hb1⟩
  clear e0 e1
  have e0 := ((At.boxc (i := 0) (v := .int .i64 0) (t := 68) (b := w.heap.size) w #[.int .i64 0, .int .i64 0] rfl (by simp)).below hb1).1
  have e1 := ((At.boxc (i := 1) (v := .int .i64 0) (t := 68) (b := w.heap.size) w #[.int .i64 0, .int .i64 0] rfl (by simp)).below hb1).1
  go_wp2
  go_ret2
  exact ⟨by simp, (bt ((Below.refl _ _).alloc (Nat.le_refl _) (.cells #[.int .i64 0, .int .i64 0] 68)) hb1)⟩
set_option maxHeartbeats 4000000 in
theorem eighth_x {x : Int} {w : World} (hx : x ≠ 0) (hs : gsz (x, 0) < GM) : Calls Try.prog 94 #[gv (x, 0)] w (Two (oct (x, 0)) 0 w) := by
  have C1 := Lib.hid fun (w : World) => gsize_yes (w := w) hs
  generalize gsz (x, 0) = sz at C1
  have d0 : (x == 0) = false := by simp [hx]
  have d0' : decide (x = 0) = false := by simp [hx]
  by_cases hp : 0 < x
  · have e : oct (x, 0) = 0 := by unfold oct; simp [hp]
    rw [e]
    have d1 : decide (0 < x) = true := decide_eq_true hp
    clear e hp hx hs
    go_enter Try.func94, Try.ntmps94
    have e0 := (At.boxc (i := 0) (v := .int .i64 x) (t := 68) (b := w.heap.size) w #[.int .i64 x, .int .i64 0] rfl (by simp)).1
    have e1 := (At.boxc (i := 1) (v := .int .i64 0) (t := 68) (b := w.heap.size) w #[.int .i64 x, .int .i64 0] rfl (by simp)).1
    go_wp2_with fail
    refine (C1.out _).mono ?_
    rintro e w1 ⟨rfl, hb1⟩
    clear e0 e1
    have e0 := ((At.boxc (i := 0) (v := .int .i64 x) (t := 68) (b := w.heap.size) w #[.int .i64 x, .int .i64 0] rfl (by simp)).below hb1).1
    have e1 := ((At.boxc (i := 1) (v := .int .i64 0) (t := 68) (b := w.heap.size) w #[.int .i64 x, .int .i64 0] rfl (by simp)).below hb1).1
    go_wp2
    go_ret2
    exact ⟨by simp, (bt ((Below.refl _ _).alloc (Nat.le_refl _) (.cells #[.int .i64 x, .int .i64 0] 68)) hb1)⟩
  · have e : oct (x, 0) = 4 := by unfold oct; simp [hp]
    rw [e]
    have d1 : decide (0 < x) = false := decide_eq_false hp
    clear e hp hx hs
    go_enter Try.func94, Try.ntmps94
    have e0 := (At.boxc (i := 0) (v := .int .i64 x) (t := 68) (b := w.heap.size) w #[.int .i64 x, .int .i64 0] rfl (by simp)).1
    have e1 := (At.boxc (i := 1) (v := .int .i64 0) (t := 68) (b := w.heap.size) w #[.int .i64 x, .int .i64 0] rfl (by simp)).1
    go_wp2_with fail
    refine (C1.out _).mono ?_
    rintro e w1 ⟨rfl, hb1⟩
    clear e0 e1
    have e0 := ((At.boxc (i := 0) (v := .int .i64 x) (t := 68) (b := w.heap.size) w #[.int .i64 x, .int .i64 0] rfl (by simp)).below hb1).1
    have e1 := ((At.boxc (i := 1) (v := .int .i64 0) (t := 68) (b := w.heap.size) w #[.int .i64 x, .int .i64 0] rfl (by simp)).below hb1).1
    go_wp2
    go_ret2
    exact ⟨by simp, (bt ((Below.refl _ _).alloc (Nat.le_refl _) (.cells #[.int .i64 x, .int .i64 0] 68)) hb1)⟩
set_option maxHeartbeats 4000000 in
theorem eighth_y {y : Int} {w : World} (hy : y ≠ 0) (hs : gsz (0, y) < GM) : Calls Try.prog 94 #[gv (0, y)] w (Two (oct (0, y)) 0 w) := by
  have C1 := Lib.hid fun (w : World) => gsize_yes (w := w) hs
  generalize gsz (0, y) = sz at C1
  have d0 : (y == 0) = false := by simp [hy]
  have d0' : decide (y = 0) = false := by simp [hy]
  by_cases hp : 0 < y
  · have e : oct (0, y) = 2 := by unfold oct; simp [hp, hy]
    rw [e]
    have d1 : decide (0 < y) = true := decide_eq_true hp
    clear e hp hy hs
    go_enter Try.func94, Try.ntmps94
    have e0 := (At.boxc (i := 0) (v := .int .i64 0) (t := 68) (b := w.heap.size) w #[.int .i64 0, .int .i64 y] rfl (by simp)).1
    have e1 := (At.boxc (i := 1) (v := .int .i64 y) (t := 68) (b := w.heap.size) w #[.int .i64 0, .int .i64 y] rfl (by simp)).1
    go_wp2_with fail
    refine (C1.out _).mono ?_
    rintro e w1 ⟨rfl, hb1⟩
    clear e0 e1
    have e0 := ((At.boxc (i := 0) (v := .int .i64 0) (t := 68) (b := w.heap.size) w #[.int .i64 0, .int .i64 y] rfl (by simp)).below hb1).1
    have e1 := ((At.boxc (i := 1) (v := .int .i64 y) (t := 68) (b := w.heap.size) w #[.int .i64 0, .int .i64 y] rfl (by simp)).below hb1).1
    go_wp2
    go_ret2
    exact ⟨by simp, (bt ((Below.refl _ _).alloc (Nat.le_refl _) (.cells #[.int .i64 0, .int .i64 y] 68)) hb1)⟩
  · have e : oct (0, y) = 6 := by unfold oct; simp [hp, hy]
    rw [e]
    have d1 : decide (0 < y) = false := decide_eq_false hp
    clear e hp hy hs
    go_enter Try.func94, Try.ntmps94
    have e0 := (At.boxc (i := 0) (v := .int .i64 0) (t := 68) (b := w.heap.size) w #[.int .i64 0, .int .i64 y] rfl (by simp)).1
    have e1 := (At.boxc (i := 1) (v := .int .i64 y) (t := 68) (b := w.heap.size) w #[.int .i64 0, .int .i64 y] rfl (by simp)).1
    go_wp2_with fail
    refine (C1.out _).mono ?_
    rintro e w1 ⟨rfl, hb1⟩
    clear e0 e1
    have e0 := ((At.boxc (i := 0) (v := .int .i64 0) (t := 68) (b := w.heap.size) w #[.int .i64 0, .int .i64 y] rfl (by simp)).below hb1).1
    have e1 := ((At.boxc (i := 1) (v := .int .i64 y) (t := 68) (b := w.heap.size) w #[.int .i64 0, .int .i64 y] rfl (by simp)).below hb1).1
    go_wp2
    go_ret2
    exact ⟨by simp, (bt ((Below.refl _ _).alloc (Nat.le_refl _) (.cells #[.int .i64 0, .int .i64 y] 68)) hb1)⟩
set_option maxHeartbeats 4000000 in
theorem eighth_xy {x y : Int} {w : World} (hx : x ≠ 0) (hy : y ≠ 0) (hs : gsz (x, y) < GM) : Calls Try.prog 94 #[gv (x, y)] w (Two (oct (x, y)) 0 w) := by
  have C1 := Lib.hid fun (w : World) => gsize_yes (w := w) hs
  generalize gsz (x, y) = sz at C1
  have d0 : (y == 0) = false := by simp [hy]
  have d0' : decide (y = 0) = false := by simp [hy]
  have g0 : (x == 0) = false := by simp [hx]
  have g0' : decide (x = 0) = false := by simp [hx]
  rcases Int.lt_or_gt_of_ne hx with hp | hp
  · have g1 : decide (0 < x) = false := decide_eq_false (by omega)
    have g2 : decide (x < 0) = true := decide_eq_true hp
    rcases Int.lt_or_gt_of_ne hy with hq | hq
    · have e : oct (x, y) = 5 := by unfold oct; simp only; rw [if_neg hy, if_neg hx, if_neg (by omega), if_pos hp]
      rw [e]
      have d1 : decide (0 < y) = false := decide_eq_false (by omega)
      clear e hp hq hx hy hs
      go_enter Try.func94, Try.ntmps94
      have e0 := (At.boxc (i := 0) (v := .int .i64 x) (t := 68) (b := w.heap.size) w #[.int .i64 x, .int .i64 y] rfl (by simp)).1
      have e1 := (At.boxc (i := 1) (v := .int .i64 y) (t := 68) (b := w.heap.size) w #[.int .i64 x, .int .i64 y] rfl (by simp)).1
      go_wp2_with fail
      refine (C1.out _).mono ?_
      rintro e w1 ⟨rfl, hb1⟩
      clear e0 e1
      have e0 := ((At.boxc (i := 0) (v := .int .i64 x) (t := 68) (b := w.heap.size) w #[.int .i64 x, .int .i64 y] rfl (by simp)).below hb1).1
      have e1 := ((At.boxc (i := 1) (v := .int .i64 y) (t := 68) (b := w.heap.size) w #[.int .i64 x, .int .i64 y] rfl (by simp)).below hb1).1
      go_wp2
      go_ret2
      exact ⟨by simp, (bt ((Below.refl _ _).alloc (Nat.le_refl _) (.cells #[.int .i64 x, .int .i64 y] 68)) hb1)⟩
    · have e : oct (x, y) = 3 := by unfold oct; simp only; rw [if_neg hy, if_neg hx, if_pos hq, if_neg (by omega)]
      rw [e]
      have d1 : decide (0 < y) = true := decide_eq_true hq
      clear e hp hq hx hy hs
      go_enter Try.func94, Try.ntmps94
      have e0 := (At.boxc (i := 0) (v := .int .i64 x) (t := 68) (b := w.heap.size) w #[.int .i64 x, .int .i64 y] rfl (by simp)).1
      have e1 := (At.boxc (i := 1) (v := .int .i64 y) (t := 68) (b := w.heap.size) w #[.int .i64 x, .int .i64 y] rfl (by simp)).1
      go_wp2_with fail
      refine (C1.out _).mono ?_
      rintro e w1 ⟨rfl, hb1⟩
      clear e0 e1
      have e0 := ((At.boxc (i := 0) (v := .int .i64 x) (t := 68) (b := w.heap.size) w #[.int .i64 x, .int .i64 y] rfl (by simp)).below hb1).1
      have e1 := ((At.boxc (i := 1) (v := .int .i64 y) (t := 68) (b := w.heap.size) w #[.int .i64 x, .int .i64 y] rfl (by simp)).below hb1).1
      go_wp2
      go_ret2
      exact ⟨by simp, (bt ((Below.refl _ _).alloc (Nat.le_refl _) (.cells #[.int .i64 x, .int .i64 y] 68)) hb1)⟩
  · have g1 : decide (0 < x) = true := decide_eq_true hp
    have g2 : decide (x < 0) = false := decide_eq_false (by omega)
    rcases Int.lt_or_gt_of_ne hy with hq | hq
    · have e : oct (x, y) = 7 := by unfold oct; simp only; rw [if_neg hy, if_neg hx, if_neg (by omega), if_neg (by omega)]
      rw [e]
      have d1 : decide (0 < y) = false := decide_eq_false (by omega)
      clear e hp hq hx hy hs
      go_enter Try.func94, Try.ntmps94
      have e0 := (At.boxc (i := 0) (v := .int .i64 x) (t := 68) (b := w.heap.size) w #[.int .i64 x, .int .i64 y] rfl (by simp)).1
      have e1 := (At.boxc (i := 1) (v := .int .i64 y) (t := 68) (b := w.heap.size) w #[.int .i64 x, .int .i64 y] rfl (by simp)).1
      go_wp2_with fail
      refine (C1.out _).mono ?_
      rintro e w1 ⟨rfl, hb1⟩
      clear e0 e1
      have e0 := ((At.boxc (i := 0) (v := .int .i64 x) (t := 68) (b := w.heap.size) w #[.int .i64 x, .int .i64 y] rfl (by simp)).below hb1).1
      have e1 := ((At.boxc (i := 1) (v := .int .i64 y) (t := 68) (b := w.heap.size) w #[.int .i64 x, .int .i64 y] rfl (by simp)).below hb1).1
      go_wp2
      go_ret2
      exact ⟨by simp, (bt ((Below.refl _ _).alloc (Nat.le_refl _) (.cells #[.int .i64 x, .int .i64 y] 68)) hb1)⟩
    · have e : oct (x, y) = 1 := by unfold oct; simp only; rw [if_neg hy, if_neg hx, if_pos hq, if_pos hp]
      rw [e]
      have d1 : decide (0 < y) = true := decide_eq_true hq
      clear e hp hq hx hy hs
      go_enter Try.func94, Try.ntmps94
      have e0 := (At.boxc (i := 0) (v := .int .i64 x) (t := 68) (b := w.heap.size) w #[.int .i64 x, .int .i64 y] rfl (by simp)).1
      have e1 := (At.boxc (i := 1) (v := .int .i64 y) (t := 68) (b := w.heap.size) w #[.int .i64 x, .int .i64 y] rfl (by simp)).1
      go_wp2_with fail
      refine (C1.out _).mono ?_
      rintro e w1 ⟨rfl, hb1⟩
      clear e0 e1
      have e0 := ((At.boxc (i := 0) (v := .int .i64 x) (t := 68) (b := w.heap.size) w #[.int .i64 x, .int .i64 y] rfl (by simp)).below hb1).1
      have e1 := ((At.boxc (i := 1) (v := .int .i64 y) (t := 68) (b := w.heap.size) w #[.int .i64 x, .int .i64 y] rfl (by simp)).below hb1).1
      go_wp2
      go_ret2
      exact ⟨by simp, (bt ((Below.refl _ _).alloc (Nat.le_refl _) (.cells #[.int .i64 x, .int .i64 y] 68)) hb1)⟩
theorem eighth_any {z : Gz} {w : World} (hz : z ≠ (0, 0)) (hs : gsz z < GM) : Calls Try.prog 94 #[gv z] w (Two (oct z) 0 w) := by
  obtain ⟨x, y⟩ := z
  by_cases hy : y = 0
  · subst hy
    exact eighth_x (fun h => hz (by rw [h])) hs
  · by_cases hx : x = 0
    · subst hx
      exact eighth_y hy hs
    · exact eighth_xy hx hy hs
def gcl (z : Gz) : List Value := [.int .i64 z.1, .int .i64 z.2]
theorem gcl_len (z : Gz) : (gcl z).length = 2 := rfl
theorem gcl_flat (ps : List Gz) : (ps.flatMap gcl).length = ps.length * 2 := by
  induction ps with
  | nil => rfl
  | cons z ps ih => rw [List.flatMap_cons, List.length_append, ih, gcl_len, List.length_cons]; omega
/-- a list of Gaussian numbers, to be read -/
def PathI (w : World) (A : Option Addr) (n c : Nat) (ps : List Gz) : Prop := RdK 2 w A n c (ps.flatMap gcl) ∧ n = ps.length
theorem PathI.below {w w' : World} {A : Option Addr} {n c : Nat} {ps : List Gz} (h : PathI w A n c ps) (hb : Below w.heap.size w w') : PathI w' A n c ps := ⟨h.1.below hb, h.2⟩
theorem PathI.at {w : World} {A : Option Addr} {n c i : Nat} {ps : List Gz} {z : Gz} (h : PathI w A n c ps) (hz : ps[i]? = some z) : ∃ b off, A = some ⟨b, off, none⟩ ∧ b < w.heap.size ∧ At w ⟨b, off + i * 2, none⟩ (.int .i64 z.1) ∧ At w ⟨b, off + i * 2 + 1, none⟩ (.int .i64 z.2) := by
  have hi : i < ps.length := (List.getElem?_eq_some_iff.1 hz).1
  obtain ⟨b, off, e, hb, hc⟩ := h.1.2 (by have := h.2; omega)
  have hf := fun j hj => flat2 gcl gcl_len ps i j z hz hj
  have hl := gcl_flat ps
  have hn := h.2
  refine ⟨b, off, e, hb, ⟨?_, hb⟩, ⟨?_, hb⟩⟩
  · have := hf 0 (by omega); rw [Nat.add_zero] at this; rw [hc _ (by omega), this]; rfl
  · rw [Nat.add_assoc, hc _ (by omega), hf 1 (by omega)]; rfl
theorem tsum_bound {es : List Int} (he : ∀ i, 0 ≤ zn es i ∧ zn es i ≤ 7) : ∀ k : Nat, -(4 * (k : Int)) ≤ tsum es k ∧ tsum es k ≤ 4 * (k : Int)
  | 0 => ⟨by simp [tsum], by simp [tsum]⟩
  | k + 1 => by
    have ih := tsum_bound he k
    have h := otw_range (he k) (he ((k + 1) % es.length))
    show -(4 * ((k + 1 : Nat) : Int)) ≤ tsum es k + _ ∧ tsum es k + _ ≤ _
    omega
theorem zn_oct (ps : List Gz) (i : Nat) : 0 ≤ zn (ps.map oct) i ∧ zn (ps.map oct) i ≤ 7 := by
  unfold zn
  rw [List.getElem?_map]
  cases ps[i]? with
  | none => simp
  | some z => exact oct_range z
/-- what Turns answers -/
def GTn (ps : List Gz) (T : Int) (w : World) (e : Ending) (w' : World) : Prop :=
  ∃ v er : Int, e = .returned (.tuple #[.int .i64 v, .int .i64 er]) ∧ Hid (((0, 0) ∈ ps ∧ v = 0 ∧ er = 1) ∨ ((0, 0) ∉ ps ∧ v = T ∧ er = 0)) ∧ Below w.heap.size w w'
set_option maxRecDepth 100000 in
set_option maxHeartbeats 8000000 in
theorem turns_any {A : Option Addr} {n c : Nat} {ps : List Gz} {T : Int} {w : World} (h : PathI w A n c ps) (hb : n ≤ 1048576) (hsm : ∀ z ∈ ps, gsz z < GM) (hok : (0, 0) ∉ ps → ∀ i, i < n → odd8 (zn (ps.map oct) i) (zn (ps.map oct) ((i + 1) % (ps.map oct).length)) ≠ 4)
    (hT : (0, 0) ∉ ps → tsum (ps.map oct) n = 8 * T) (hT2 : T = 0 ∨ T = 1) : Calls Try.prog 76 #[.slice A n c] w (GTn ps T w) := by
  have H := Lib.hid h
  have HS := Lib.hid hsm
  have HO := Lib.hid hok
  have HT := Lib.hid hT
  have HT2 := Lib.hid hT2
  have HLP : Hid (n = ps.length) := h.2
  clear h hsm hok hT hT2
  go_enter Try.func76, Try.ntmps76
  go_wp2
  go_loopw [4, 15] (fun ov kv wr => ∃ (i : Nat) (A' : Option Addr) (c' : Nat), Hid (Below w.heap.size w wr ∧ RowK 1 3 w.heap.size wr A' i c' (zvl ((ps.map oct).take i)) ∧ (0, 0) ∉ ps.take i) ∧ i ≤ n ∧ ov = .slice A' i c' ∧ kv = .int .i64 (i : Int)) (fun _ kv _ => n - (intOf kv).toNat)
  case atStart => exact ⟨0, none, 0, ⟨Below.refl _ _, by simpa [zvl] using (RowK.nil : RowK 1 3 w.heap.size w none 0 0 []), by simp⟩, Nat.zero_le _, rfl, rfl⟩
  case round =>
    obtain ⟨i, A', c', hI, hi, rfl, rfl⟩ := hrel
    by_cases hlt : i < n
    · have hip : i < ps.length := by have := HLP.out; omega
      obtain ⟨z, hz⟩ : ∃ z, ps[i]? = some z := ⟨_, List.getElem?_eq_getElem hip⟩
      obtain ⟨b, off, e, hb, g0, g1⟩ := (H.out.below hI.out.1).at hz
      subst e
      have HZ := Lib.hid hz
      have hzs : gsz z < GM := HS.out z (List.mem_of_getElem? hz)
      have i1 : (0 : Int) ≤ (i : Int) := by omega
      have i2 : (i : Int) < (n : Int) := by omega
      have x0 := g0.1
      have x1 := g1.1
      by_cases h0 : z = (0, 0)
      · have HM : Hid ((0, 0) ∈ ps) := by have := List.mem_of_getElem? hz; rw [h0] at this; exact this
        subst h0
        clear hz g0 g1 hzs
        go_wp2_with fail
        refine eighth_zero.mono ?_
        rintro e v2 ⟨rfl, hb2⟩
        have HB := Lib.hid (bt hI.out.1 (bt (belowA _ _) hb2))
        clear hb2 x0 x1
        go_wp2
        go_ret2
        exact ⟨0, 1, by simp, .inl ⟨HM.out, rfl, rfl⟩, HB.out⟩
      · have C := Lib.hid fun (w : World) => eighth_any (w := w) h0 hzs
        have HNZ : Hid ((0, 0) ∉ ps.take (i + 1)) := by
          rw [take_snoc hz]
          show ¬ _
          simp only [List.mem_append, List.mem_singleton, not_or]
          exact ⟨hI.out.2.2, fun e => h0 e.symm⟩
        have HOZ : Hid ((ps.map oct)[i]? = some (oct z)) := by show _ = _; rw [List.getElem?_map, hz]; rfl
        obtain ⟨z1, z2⟩ := z
        generalize oct (z1, z2) = oz at C HOZ
        simp only at x0 x1
        clear hz g0 g1 h0 hzs HZ
        go_wp2_with fail
        refine (C.out _).mono ?_
        rintro e v2 ⟨rfl, hb2⟩
        have HB2 := Lib.hid (bt hI.out.1 (bt (belowA _ _) hb2))
        have HOW := Lib.hid ((hI.out.2.1.below (belowA _ _)).below hb2)
        clear hb2 x0 x1 C
        go_wp2_with (at_builtin; (refine wpList_appK rfl (.tmp 27) (.tmp 29) rfl elIK rfl rfl (HOW.out.below (belowA _ _)) (RowK.lit (k := 1) (T := 3) (B := 0) v2 1 [.int .i64 oz] (by simp) rfl (by omega) (Nat.zero_le _)).rd (by intro u hu; simp at hu; subst hu; rfl) (by omega) (by omega) (by have := HB2.out.size; simp; omega) ?_); intro A4 c4 w4 ho4 hb4 hg4; have HN : Hid (Below w.heap.size w w4 ∧ RowK 1 3 w.heap.size w4 A4 (i + 1) c4 (zvl ((ps.map oct).take (i + 1))) ∧ (0, 0) ∉ ps.take (i + 1)) := (⟨(bt HB2.out (belowA _ _)).trans hb4, (by rw [take_snoc HOZ.out, ← zvl_snoc]; exact ho4), HNZ.out⟩); clear ho4 hb4 hg4)
        go_roundw
        case rel => exact ⟨i + 1, A4, c4, HN, by omega, rfl, by go_num⟩
        case measure => simp [intOf]; omega
    · obtain rfl : i = n := by omega
      have hnz : (0, 0) ∉ ps := by have := hI.out.2.2; rwa [List.take_of_length_le (by have := HLP.out; omega)] at this
      have HOW : Hid (RowK 1 3 w.heap.size wr A' i c' (zvl (ps.map oct))) := by
        have := hI.out.2.1
        rwa [List.take_of_length_le (by rw [List.length_map]; have := HLP.out; omega)] at this
      have HNZ := Lib.hid hnz
      have HB := Lib.hid hI.out.1
      have HOK := Lib.hid (HO.out hnz)
      have HTT := Lib.hid (HT.out hnz)
      have HEL : Hid ((ps.map oct).length = i) := by show _ = _; rw [List.length_map, HLP.out]
      have HEB := Lib.hid (zn_oct ps)
      have HTB := Lib.hid (tsum_bound (zn_oct ps))
      generalize ps.map oct = es at HOW HOK HTT HEL HEB HTB
      clear hnz hI HO HT hlt
      go_wp2
      go_loopw [9, 34] (fun sv kv wx => ∃ (k : Nat), k ≤ i ∧ sv = .int .i64 (tsum es k) ∧ kv = .int .i64 (k : Int) ∧ wx = wr) (fun _ kv _ => i - (intOf kv).toNat)
      case atStart => exact ⟨0, Nat.zero_le _, rfl, rfl, rfl⟩
      case round =>
        obtain ⟨k, hk, rfl, rfl, rfl⟩ := hrel
        by_cases hlt : k < i
        · obtain ⟨g, rfl, hg1, hg2⟩ := HOW.out.form (by omega)
          obtain ⟨m, hm⟩ : ∃ m : Nat, m = (k + 1) % i := ⟨_, rfl⟩
          have hmi : m < i := by rw [hm]; exact Nat.mod_lt _ (by omega)
          have cell : ∀ j, j < i → wr.cell? ⟨g, j, none⟩ = some (.int .i64 (zn es j)) := fun j hj => by
            rw [HOW.out.cell (i := j) (by omega)]
            unfold zvl
            have hl : j < es.length := by have := HEL.out; omega
            rw [List.getElem?_map, List.getElem?_eq_getElem hl, zn_of (List.getElem?_eq_getElem hl)]; rfl
          have x0 := cell k hlt
          have x1 := cell m hmi
          have HST : Hid (tsum es (k + 1) = tsum es k + otw (zn es k) (zn es m)) := by
            show tsum es k + otw (zn es k) (zn es ((k + 1) % es.length)) = _
            rw [HEL.out, ← hm]
          have hok := HOK.out k hlt
          rw [HEL.out, ← hm] at hok
          have b1 := HEB.out k
          have b2 := HEB.out m
          have b3 := HTB.out k
          have b4 := HTB.out (k + 1)
          rw [HST.out] at b4
          have hmm : ((k : Int) + 1) % (i : Int) = (m : Int) := by rw [hm]; simp
          have hmt : ((k : Int) + 1).tmod (i : Int) = (m : Int) := by rw [Int.tmod_eq_emod_of_nonneg (by omega)]; exact hmm
          generalize zn es k = ek at *
          generalize zn es m = em at *
          generalize tsum es k = sk at *
          obtain ⟨d8, hd8⟩ : ∃ d8 : Int, d8 = odd8 ek em := ⟨_, rfl⟩
          have hd9 : (em - ek + 8) % 8 = d8 := by rw [hd8]; rfl
          have hd9t : (em - ek + 8).tmod 8 = d8 := by rw [Int.tmod_eq_emod_of_nonneg (by omega)]; exact hd9
          have hw1 : IntKind.i64.wrap (em - ek) = em - ek := by rw [IntKind.wrap_i64]; omega
          have hw2 : IntKind.i64.wrap (em - ek + 8) = em - ek + 8 := by rw [IntKind.wrap_i64]; omega
          have hw0 : IntKind.i64.wrap ((k : Int) + 1) = (k : Int) + 1 := by rw [IntKind.wrap_i64]; omega
          have i1 : (0 : Int) ≤ (k : Int) := by omega
          have i2 : (k : Int) < (i : Int) := by omega
          have i3 : (0 : Int) ≤ (m : Int) := by omega
          have i4 : (m : Int) < (i : Int) := by omega
          have hdb : 0 ≤ d8 ∧ d8 ≤ 7 := by rw [hd8]; unfold odd8; omega
          have hne : (d8 == 4) = false := by rw [hd8]; simpa using hok
          by_cases h4 : 4 < d8
          · have d1 : decide (4 < d8) = true := decide_eq_true h4
            have HW : Hid (otw ek em = d8 - 8) := by show _ = _; unfold otw; rw [← hd8, if_pos h4]
            rw [HW.out] at b4
            have hw3 : IntKind.i64.wrap (d8 - 8) = d8 - 8 := by rw [IntKind.wrap_i64]; omega
            have hw4 : IntKind.i64.wrap (sk + (d8 - 8)) = sk + (d8 - 8) := by rw [IntKind.wrap_i64]; omega
            have HSK : Hid (tsum es (k + 1) = sk + (d8 - 8)) := by show _ = _; rw [HST.out, HW.out]
            clear hd8 hok b1 b2 b3 b4 hm hmi HW cell hdb h4 HST
            go_wp2
            go_roundw
            case rel => exact ⟨k + 1, by omega, by rw [HSK.out], by go_num, trivial⟩
            case measure => simp [intOf]; omega
          · have d1 : decide (4 < d8) = false := decide_eq_false h4
            have HW : Hid (otw ek em = d8) := by show _ = _; unfold otw; rw [← hd8, if_neg h4]
            rw [HW.out] at b4
            have hw4 : IntKind.i64.wrap (sk + d8) = sk + d8 := by rw [IntKind.wrap_i64]; omega
            have HSK : Hid (tsum es (k + 1) = sk + d8) := by show _ = _; rw [HST.out, HW.out]
            clear hd8 hok b1 b2 b3 b4 hm hmi HW cell hdb h4 HST
            go_wp2
            go_roundw
            case rel => exact ⟨k + 1, by omega, by rw [HSK.out], by go_num, trivial⟩
            case measure => simp [intOf]; omega
        · obtain rfl : k = i := by omega
          rw [HTT.out]
          rcases HT2.out with rfl | rfl
          · go_wp2
            go_ret2
            exact ⟨0, 0, by simp, .inr ⟨HNZ.out, rfl, rfl⟩, HB.out⟩
          · go_wp2
            go_ret2
            exact ⟨1, 0, by simp, .inr ⟨HNZ.out, rfl, rfl⟩, HB.out⟩
end Go.Proofs.Ytphofjinncbaaaa
namespace Go.Proofs.Ytphofjinncbaaaa
open Go.RowKit
set_option linter.unusedVariables false
set_option linter.unusedSimpArgs false

theorem elNum : ElemK Try.prog 112 68 (.agg #[.int .i64 0, .int .i64 0]) 2 16 := ⟨⟨Try.underlying112, by kernel_rfl⟩, rfl, by omega, by omega⟩
theorem gcl_one (ps : List Gz) : ∀ u ∈ ps.flatMap gcl, u.oneCell' = true := by
  intro u hu
  obtain ⟨z, _, hm⟩ := List.mem_flatMap.1 hu
  simp [gcl] at hm
  rcases hm with rfl | rfl <;> rfl
/-- a new list of Gaussian numbers -/
def PathO (B : Nat) (w : World) (A : Option Addr) (n c : Nat) (ps : List Gz) : Prop := RowK 2 68 B w A n c (ps.flatMap gcl) ∧ n = ps.length
theorem PathO.below {B : Nat} {w w' : World} {A : Option Addr} {n c : Nat} {ps : List Gz} (h : PathO B w A n c ps) (hb : Below w.heap.size w w') : PathO B w' A n c ps := ⟨h.1.below hb, h.2⟩
theorem PathO.rd {B : Nat} {w : World} {A : Option Addr} {n c : Nat} {ps : List Gz} (h : PathO B w A n c ps) : PathI w A n c ps := ⟨h.1.rd, h.2⟩
theorem PathO.mono {B B' : Nat} {w : World} {A : Option Addr} {n c : Nat} {ps : List Gz} (h : PathO B w A n c ps) (hB : B' ≤ B) : PathO B' w A n c ps := ⟨h.1.mono hB, h.2⟩
theorem PathO.nil {B : Nat} {w : World} : PathO B w none 0 0 [] := ⟨RowK.nil, rfl⟩
/-- one more -/
theorem wpList_appP {B n c c2 : Nat} {w : World} {A A2 : Option Addr} (z : Gz) {ps : List Gz} {ops : Array Oper} {rest : List Oper} {o : Oper} {a : Act} {Q : Exit → Act → World → Prop} (hgd : o.guard = none) (s x : Operand)
    (ho : o.op = .call { callee := .builtin .append, args := #[s, x], argTypes := #[112, 112] })
    (hs : a.eval s = .slice A n c) (hx : a.eval x = .slice A2 1 c2) (H : PathO B w A n c ps) (hr : RdK 2 w A2 1 c2 (gcl z)) (hn : n ≤ 1099511627775) (hB : B ≤ w.heap.size)
    (hk : ∀ A' c' w', PathO B w' A' (n + 1) c' (ps ++ [z]) → Below B w w' → wpList Try.prog ops Q rest (a.put o.dst (.slice A' (n + 1) c')) w') : wpList Try.prog ops Q (o :: rest) a w := by
  refine wpList_appK hgd s x ho elNum hs hx H.1 hr (by intro u hu; simp [gcl] at hu; rcases hu with rfl | rfl <;> rfl) (by omega) (by omega) hB ?_
  intro A' c' w' ho' hb' hg
  refine hk A' c' w' ⟨?_, by rw [List.length_append, ← H.2]; rfl⟩ hb'
  rw [List.flatMap_append]
  simpa using ho'
theorem scor_size {X Y : Int} {r k : Nat} : gsz (scor X Y r k) ≤ X.natAbs + Y.natAbs + 2 * r := by
  unfold scor gsz
  split <;> simp only <;> omega
theorem sdir_size {k : Nat} : gsz (sdir k) = 1 := by unfold sdir gsz; split <;> rfl
theorem sq_size {X Y : Int} {r k j : Nat} (hj : j ≤ 2 * r) : gsz (sq X Y r k j) ≤ X.natAbs + Y.natAbs + 4 * r := by
  have h1 := scor_size (X := X) (Y := Y) (r := r) (k := k)
  have e : sq X Y r k j = gadd (scor X Y r k) (gmul ((j : Int), 0) (sdir k)) := by
    unfold sq gadd gmul
    refine gz_ext ?_ ?_ <;> simp
  rw [e]
  have h2 := gsz_add (scor X Y r k) (gmul ((j : Int), 0) (sdir k))
  have h3 := gsz_mul ((j : Int), 0) (sdir k)
  rw [sdir_size] at h3
  have h4 : gsz ((j : Int), 0) = j := by unfold gsz; simp
  omega
theorem sdir_next {k : Nat} (hk : k < 4) : gmul (sdir k) (0, 1) = sdir (k + 1) := by
  match k, hk with
  | 0, _ => rfl
  | 1, _ => rfl
  | 2, _ => rfl
  | 3, _ => rfl
def GPath (ps : List Gz) (w : World) (e : Ending) (w' : World) : Prop := ∃ A n c, e = .returned (.tuple #[.slice A n c, .int .i64 0]) ∧ PathO w.heap.size w' A n c ps ∧ Below w.heap.size w w'
def SqI (X Y : Int) (r : Nat) (v1 : World) (k j N' : Nat) (A' : Option Addr) (c' : Nat) (wr : World) : Prop :=
  Below v1.heap.size v1 wr ∧ PathO v1.heap.size wr A' N' c' (spath X Y r N') ∧ N' = k * (2 * r) + j
set_option maxRecDepth 100000 in
set_option maxHeartbeats 8000000 in
theorem gsquare_any {X Y : Int} {r : Nat} {w : World} (hr1 : 1 ≤ r) (hr2 : r ≤ 4096) (hX : X.natAbs ≤ 1000000) (hY : Y.natAbs ≤ 1000000) :
    Calls Try.prog 74 #[gv (X, Y), .int .i64 (r : Int)] w (GPath (spath X Y r (4 * (2 * r))) w) := by
  have hz : gsz (X, Y) < GM := by unfold gsz GM; simp only; omega
  have C1 := Lib.hid fun (w : World) => gsize_yes (w := w) hz
  have CI := Lib.hid fun (w : World) => ginside_any (z := (X, Y)) (w := w) (by omega)
  have hsz : gsz (X, Y) ≤ 2000000 := by unfold gsz; simp only; omega
  generalize gsz (X, Y) = sz at C1 hsz
  have HX := Lib.hid (And.intro hX hY)
  clear hX hY hz
  have d1 : decide ((r : Int) < 1) = false := decide_eq_false (by omega)
  have d2 : decide (4096 < (r : Int)) = false := decide_eq_false (by omega)
  obtain ⟨R2, hR2⟩ : ∃ R2 : Nat, R2 = 2 * r := ⟨_, rfl⟩
  have hw1 : IntKind.i64.wrap (2 * (r : Int)) = (R2 : Int) := by rw [IntKind.wrap_i64]; omega
  have d3 : decide ((1125899906842624 : Int) ≤ (sz : Int) + (R2 : Int)) = false := decide_eq_false (by omega)
  have hw2 : IntKind.i64.wrap ((sz : Int) + (R2 : Int)) = (sz : Int) + (R2 : Int) := by rw [IntKind.wrap_i64]; omega
  have cv := fun (w : World) => run_convert_int_float (P := Try.prog) w 3 108 .i64 .f64 (r : Int) (by rw [Try.underlying3]; rfl) Try.underlying108
  have HFR : Hid (IsC (floatOfInt .f64 (r : Int)) (floatOfInt .f64 (r : Int)) ((r : Int), (r : Int))) := ⟨IsW.int (by omega), IsW.int (by omega)⟩
  generalize floatOfInt .f64 (r : Int) = fr at *
  have HR := Lib.hid hR2
  clear hR2
  go_enter Try.func74, Try.ntmps74
  have e0 := (At.boxc (i := 0) (v := .int .i64 X) (t := 68) (b := w.heap.size) w #[.int .i64 X, .int .i64 Y] rfl (by simp)).1
  have e1 := (At.boxc (i := 1) (v := .int .i64 Y) (t := 68) (b := w.heap.size) w #[.int .i64 X, .int .i64 Y] rfl (by simp)).1
  go_wp2_with fail
  refine (C1.out _).mono ?_
  rintro e w1 ⟨rfl, hb1⟩
  clear e0 e1 C1
  have e0 := ((At.boxc (i := 0) (v := .int .i64 X) (t := 68) (b := w.heap.size) w #[.int .i64 X, .int .i64 Y] rfl (by simp)).below hb1).1
  have e1 := ((At.boxc (i := 1) (v := .int .i64 Y) (t := 68) (b := w.heap.size) w #[.int .i64 X, .int .i64 Y] rfl (by simp)).below hb1).1
  go_wp2_with fail
  refine (CI.out _).mono ?_
  rintro e v1 ⟨pa, pb, rfl, hp, hv1⟩
  have HB1 := Lib.hid (bt (bt ((Below.refl _ _).alloc (Nat.le_refl _) (.cells #[.int .i64 X, .int .i64 Y] 68)) hb1) hv1)
  have hxy := HX.out
  obtain ⟨re, im, hop, k1⟩ := IsC.diff hp.out HFR.out (by simp only; omega) (by simp only; omega)
  have HC0 : Hid (IsC re im (scor X Y r 0)) := k1
  have r1 := fun t w => run_complex_sum (P := Try.prog) w .sub (Or.inr rfl) t .f64 pa pb fr fr re im hop
  clear k1 hop hp hv1 e0 e1 CI hxy hb1
  go_wp2_with (simp only [r1, cv])
  clear r1 cv d1 d2 d3 hw2
  have HI0 : Hid (SqI X Y r v1 0 0 0 none 0 v1) := ⟨Below.refl _ _, PathO.nil, by omega⟩
  have HW0 : Hid (IsC 4607182418800017408 0 (sdir 0)) := ⟨IsW.one, IsW.zero⟩
  go_loopw [8, 9, 10, 39] (fun av wv ov kv wr => ∃ (k N' : Nat) (A' : Option Addr) (c' pa pb qa qb : Nat), Hid (SqI X Y r v1 k 0 N' A' c' wr) ∧ Hid (IsC pa pb (scor X Y r k)) ∧ Hid (IsC qa qb (sdir k)) ∧ k ≤ 4 ∧ av = .complex .f64 pa pb ∧ wv = .complex .f64 qa qb ∧ ov = .slice A' N' c' ∧ kv = .int .i64 (k : Int)) (fun _ _ _ kv _ => 4 - (intOf kv).toNat)
  case atStart => exact ⟨0, 0, none, 0, re, im, _, _, HI0, HC0, HW0, by omega, rfl, rfl, rfl, rfl⟩
  case round =>
    obtain ⟨k, N0, A0, c0, pa0, pb0, qa, qb, hI, hA, hW, hk, rfl, rfl, rfl, rfl⟩ := hrel
    by_cases hlt : k < 4
    · have dk : decide ((k : Int) < 4) = true := decide_eq_true (by omega)
      have HQ0 : Hid (IsC pa0 pb0 (sq X Y r k 0)) := by show IsC _ _ _; rw [sq_zero]; exact hA.out
      have HJ0 : Hid (SqI X Y r v1 k 0 N0 A0 c0 wr) := hI
      clear hI hA
      go_wp2
      go_loopw [8, 10, 43] (fun av ov jv wx => ∃ (j N' : Nat) (A' : Option Addr) (c' pa pb : Nat), Hid (SqI X Y r v1 k j N' A' c' wx) ∧ Hid (IsC pa pb (sq X Y r k j)) ∧ j ≤ R2 ∧ av = .complex .f64 pa pb ∧ ov = .slice A' N' c' ∧ jv = .int .i64 (j : Int)) (fun _ _ jv _ => R2 - (intOf jv).toNat)
      case atStart => exact ⟨0, N0, A0, c0, pa0, pb0, HJ0, HQ0, by omega, rfl, rfl, rfl⟩
      case round =>
        obtain ⟨j, N1, A1, c1, pa, pb, hJ, hP, hj, rfl, rfl, rfl⟩ := hrel
        by_cases hjl : j < R2
        · have hjr : j < 2 * r := by have := HR.out; omega
          have hs1 := sq_size (X := X) (Y := Y) (r := r) (k := k) (j := j) (by omega)
          have hs2 := sq_size (X := X) (Y := Y) (r := r) (k := k) (j := j + 1) (by omega)
          have hxy := HX.out
          have C := Lib.hid fun (w : World) => goutside_any (w := w) hP.out (G64.of (by unfold GM; omega))
          rw [sq_step] at hs2
          obtain ⟨re3, im3, hop, k3⟩ := IsC.sum hP.out hW.out (by unfold gsz gadd at hs2; simp only at hs2; omega) (by unfold gsz gadd at hs2; simp only at hs2; omega)
          have HP3 : Hid (IsC re3 im3 (sq X Y r k (j + 1))) := by show IsC _ _ _; rw [sq_step]; exact k3
          have r1 := fun t w => run_complex_sum (P := Try.prog) w .add (Or.inl rfl) t .f64 pa pb qa qb re3 im3 hop
          have HN1 : Hid (N1 = k * (2 * r) + j) := hJ.out.2.2
          have HSP : Hid (spath X Y r N1 ++ [sq X Y r k j] = spath X Y r (N1 + 1)) := by show _ = _; rw [spath_succ, HN1.out, spt_at hjr]
          have hN1 : N1 ≤ 100000 := by
            have h1 := HN1.out
            have h2 := side_lt (r := r) hlt hjr
            omega
          generalize sq X Y r k j = zq at C HSP
          obtain ⟨zq1, zq2⟩ := zq
          clear hop k3 hs1 hs2 hxy hP
          go_wp2_with fail
          refine (C.out _).mono ?_
          rintro e v2 ⟨rfl, hb2⟩
          have HB2 := Lib.hid (bt hJ.out.1 hb2)
          have HOW := Lib.hid (hJ.out.2.1.below hb2)
          clear hb2 C
          go_wp2_with (at_builtin; (refine wpList_appP (zq1, zq2) rfl (.tmp 45) (.tmp 48) rfl rfl rfl (HOW.out.below (belowA _ _)) (RowK.lit (k := 2) (T := 68) (B := 0) v2 1 [.int .i64 zq1, .int .i64 zq2] (by simp) rfl (by omega) (Nat.zero_le _)).rd (by omega) (by have := HB2.out.size; simp; omega) ?_); intro A4 c4 w4 ho4 hb4; have HN : Hid (SqI X Y r v1 k (j + 1) (N1 + 1) A4 c4 w4) := (⟨(bt HB2.out (belowA _ _)).trans hb4, (by rw [← HSP.out]; exact ho4), by have := HN1.out; omega⟩); clear ho4 hb4)
          go_wp2_with (simp only [r1])
          go_roundw
          case rel => exact ⟨j + 1, N1 + 1, A4, c4, re3, im3, HN, HP3, by omega, rfl, rfl, by go_num⟩
          case measure => simp [intOf]; omega
        · obtain rfl : j = R2 := by omega
          have HE : Hid (IsC pa pb (scor X Y r (k + 1))) := by
            have h := hP.out
            rw [HR.out, sq_end hlt] at h
            exact h
          have HN : Hid (SqI X Y r v1 (k + 1) 0 N1 A1 c1 wr) := ⟨hJ.out.1, hJ.out.2.1, by have h := hJ.out.2.2; have h2 := HR.out; rw [Nat.succ_mul]; omega⟩
          have hd := sdir_size (k := k)
          obtain ⟨re4, im4, hop, k4⟩ := IsC.prod (y := (0, 1)) hW.out ⟨IsW.zero, IsW.one⟩ (by unfold gsz at hd; simp only; omega) (by unfold gsz at hd; simp only; omega)
          have HW4 : Hid (IsC re4 im4 (sdir (k + 1))) := by show IsC _ _ _; rw [← sdir_next hlt]; exact k4
          have r1 := fun t w => run_complex_mul (P := Try.prog) w t qa qb 0 4607182418800017408 re4 im4 hop
          clear hJ hP hd hop k4
          go_wp2_with (simp only [r1])
          go_roundw
          case rel => exact ⟨k + 1, N1, A1, c1, pa, pb, re4, im4, HN, HE, HW4, by omega, rfl, rfl, rfl, by go_num⟩
          case measure => simp [intOf]; omega
    · obtain rfl : k = 4 := by omega
      have HF : Hid (PathO v1.heap.size wr A0 N0 c0 (spath X Y r (4 * (2 * r))) ∧ Below w.heap.size w wr) := by
        have h := hI.out
        have h2 : N0 = 4 * (2 * r) := h.2.2
        have h3 := h.2.1
        rw [h2] at h3 ⊢
        exact ⟨h3, bt HB1.out h.1⟩
      clear hI hA hW
      go_wp2
      go_ret2
      exact ⟨A0, N0, c0, by simp, HF.out.1.mono HB1.out.size, HF.out.2⟩
set_option maxRecDepth 100000 in
set_option maxHeartbeats 8000000 in
theorem gvalues_any {A A2 : Option Addr} {n c n2 c2 L : Nat} {rs : List Zc} {ps : List Gz} {w : World} (h : ZPI L w (.slice A n c) rs) (h2 : PathI w A2 n2 c2 ps) (hL : L ≤ 1099511627776) (hn : n ≤ 1048576) (hn2 : n2 ≤ 1048576)
    (hsm : ∀ z ∈ ps, gsz z < GM) (hok : ∀ z ∈ ps, ∃ st, gfold (max (gsz z) 1) (ztr (rs.map zv)) = some st) :
    Calls Try.prog 75 #[.slice A n c, .slice A2 n2 c2] w (GPath (ps.map (gev (ztr (rs.map zv)))) w) := by
  have H := Lib.hid h
  have H2 := Lib.hid h2
  have HS := Lib.hid hsm
  have HO := Lib.hid hok
  have HL : Hid (n2 = ps.length) := h2.2
  clear h h2 hsm hok
  go_enter Try.func75, Try.ntmps75
  go_wp2
  go_loopw [6, 13] (fun ov kv wr => ∃ (i : Nat) (A' : Option Addr) (c' : Nat), Hid (Below w.heap.size w wr ∧ PathO w.heap.size wr A' i c' ((ps.map (gev (ztr (rs.map zv)))).take i)) ∧ i ≤ n2 ∧ ov = .slice A' i c' ∧ kv = .int .i64 (i : Int)) (fun _ kv _ => n2 - (intOf kv).toNat)
  case atStart => exact ⟨0, none, 0, ⟨Below.refl _ _, PathO.nil⟩, Nat.zero_le _, rfl, rfl⟩
  case round =>
    obtain ⟨i, A', c', hI, hi, rfl, rfl⟩ := hrel
    by_cases hlt : i < n2
    · have hip : i < ps.length := by have := HL.out; omega
      obtain ⟨z, hz⟩ : ∃ z, ps[i]? = some z := ⟨_, List.getElem?_eq_getElem hip⟩
      obtain ⟨b, off, e, hb, g0, g1⟩ := (H2.out.below hI.out.1).at hz
      subst e
      have hzs : gsz z < GM := HS.out z (List.mem_of_getElem? hz)
      have HK := Lib.hid (HO.out z (List.mem_of_getElem? hz))
      have HV : Hid ((ps.map (gev (ztr (rs.map zv))))[i]? = some (gev (ztr (rs.map zv)) z)) := by show _ = _; rw [List.getElem?_map, hz]; rfl
      have i1 : (0 : Int) ≤ (i : Int) := by omega
      have i2 : (i : Int) < (n2 : Int) := by omega
      have x0 := g0.1
      have x1 := g1.1
      have C := Lib.hid (gvalue_any (z := z) ((H.out.below hI.out.1).below (belowA wr (.cells #[.int .i64 z.1, .int .i64 z.2] 68))) hzs hL hn)
      obtain ⟨z1, z2⟩ := z
      simp only at x0 x1 C
      clear hz g0 g1 hzs
      go_wp2_with fail
      refine C.out.mono ?_
      rintro e v2 ⟨vz, er, rfl, hv, hb2⟩
      have hv2 : er = 0 ∧ vz = gev (ztr (rs.map zv)) (z1, z2) := by
        rcases hv.out with ⟨h1, h2, _⟩ | ⟨_, _, h3⟩
        · exact ⟨h1, h2⟩
        · obtain ⟨st, h4⟩ := HK.out
          rw [h3] at h4
          cases h4
      obtain ⟨rfl, hvz⟩ := hv2
      have HVZ : Hid ((ps.map (gev (ztr (rs.map zv))))[i]? = some vz) := by show _ = _; rw [HV.out, hvz]
      obtain ⟨a1, a2⟩ := vz
      have HB2 := Lib.hid (bt hI.out.1 (bt (belowA _ _) hb2))
      have HOW := Lib.hid ((hI.out.2.below (belowA _ _)).below hb2)
      clear hb2 x0 x1 C hv hvz HV HK
      go_wp2_with (at_builtin; (refine wpList_appP (a1, a2) rfl (.tmp 26) (.tmp 28) rfl rfl rfl ((HOW.out.below (belowA _ _)).below (belowA _ _)) (RowK.lit (k := 2) (T := 68) (B := 0) (v2.alloc (.cells #[.int .i64 a1, .int .i64 a2] 68)) 1 [.int .i64 a1, .int .i64 a2] (by simp) rfl (by omega) (Nat.zero_le _)).rd (by omega) (by have := HB2.out.size; simp; omega) ?_); intro A4 c4 w4 ho4 hb4; have HN : Hid (Below w.heap.size w w4 ∧ PathO w.heap.size w4 A4 (i + 1) c4 ((ps.map (gev (ztr (rs.map zv)))).take (i + 1))) := (⟨(bt (bt HB2.out (belowA _ _)) (belowA _ _)).trans hb4, (by rw [take_snoc HVZ.out]; exact ho4)⟩); clear ho4 hb4)
      go_roundw
      case rel => exact ⟨i + 1, A4, c4, HN, by omega, rfl, by go_num⟩
      case measure => simp [intOf]; omega
    · obtain rfl : i = n2 := by omega
      have HF : Hid (PathO w.heap.size wr A' i c' (ps.map (gev (ztr (rs.map zv)))) ∧ Below w.heap.size w wr) := by
        have h := hI.out.2
        rw [List.take_of_length_le (by rw [List.length_map]; have := HL.out; omega)] at h
        exact ⟨h, hI.out.1⟩
      clear hI
      go_wp2
      go_ret2
      exact ⟨A', i, c', by simp, HF.out⟩
theorem gev_line (c : Int) (z : Gz) : gev [-c, 1] z = (z.1 - c, z.2) := by
  show gadd (gmul (gadd (gmul (0, 0) z) (1, 0)) z) (-c, 0) = _
  unfold gadd gmul
  refine gz_ext ?_ ?_ <;> simp <;> omega
theorem sq_shift (X Y c : Int) (r k j : Nat) : ((sq X Y r k j).1 - c, (sq X Y r k j).2) = sq (X - c) Y r k j := by
  unfold sq scor
  split <;> (refine gz_ext ?_ ?_ <;> simp only <;> omega)
theorem spath_line (X Y c : Int) (r n : Nat) : (spath X Y r n).map (gev [-c, 1]) = spath (X - c) Y r n := by
  unfold spath
  rw [List.map_map]
  refine List.map_congr_left fun i _ => ?_
  show gev [-c, 1] (spt X Y r i) = spt (X - c) Y r i
  rw [gev_line]
  exact sq_shift X Y c r _ _
theorem gfold_line {s : Nat} {c : Int} (hs : 1 ≤ s) (hs2 : s ≤ 10000000) (hc : c.natAbs ≤ 1000) : ∃ st, gfold s [-c, 1] = some st := by
  unfold gfold
  rw [List.foldl_cons, gst_ok (by rw [Int.natAbs_neg]; unfold GM; omega) (.inr ⟨by unfold GM; omega, by rw [Int.natAbs_neg]; unfold GM; omega⟩) (by rw [Int.natAbs_neg]; unfold GM; omega)]
  have e : gpw s 1 = s := by unfold gpw; rw [if_neg (by unfold GM; omega), if_pos (by unfold GM; omega), Nat.one_mul]
  rw [e, List.foldl_cons, gst_ok (by unfold GM; decide) (.inr ⟨by unfold GM; omega, by unfold GM; simp; omega⟩) (by rw [Int.natAbs_neg]; unfold GM; simp; omega)]
  exact ⟨_, rfl⟩
theorem spath_mem {X Y : Int} {r n : Nat} {z : Gz} (h : z ∈ spath X Y r n) : ∃ i, i < n ∧ z = spt X Y r i := by
  unfold spath at h
  obtain ⟨i, hi, rfl⟩ := List.mem_map.1 h
  exact ⟨i, List.mem_range.1 hi, rfl⟩
theorem spt_size {X Y : Int} {r i : Nat} (hr : 1 ≤ r) : gsz (spt X Y r i) ≤ X.natAbs + Y.natAbs + 4 * r := sq_size (Nat.le_of_lt (Nat.mod_lt _ (by omega)))
theorem spath_zero {X Y : Int} {r : Nat} (hr : 1 ≤ r) : (0, 0) ∈ spath X Y r (4 * (2 * r)) ↔ ¬ clear0 X Y r := by
  constructor
  · intro h hc
    obtain ⟨i, hi, e⟩ := spath_mem h
    exact spt_ne hc hr hi e.symm
  · intro h
    obtain ⟨i, hi, e⟩ := spt_hit hr h
    rw [← e]
    exact List.mem_map.2 ⟨i, List.mem_range.2 hi, rfl⟩
/-- what Around answers for x - c -/
def GArd (c X Y : Int) (r : Nat) (w : World) (e : Ending) (w' : World) : Prop :=
  ∃ v er : Int, e = .returned (.tuple #[.int .i64 v, .int .i64 er]) ∧ Hid ((¬ clear0 (X - c) Y r ∧ v = 0 ∧ er = 1) ∨ (clear0 (X - c) Y r ∧ v = (if (X - c).natAbs < r ∧ Y.natAbs < r then 1 else 0) ∧ er = 0)) ∧ Below w.heap.size w w'
set_option maxRecDepth 100000 in
set_option maxHeartbeats 4000000 in
theorem garound_any {A : Option Addr} {n cc L r : Nat} {c X Y : Int} {rs : List Zc} {w : World} (h : ZPI L w (.slice A n cc) rs) (hz : rs.map zv = [-c, 1]) (hL : L ≤ 1099511627776) (hn : n ≤ 1048576) (hc : c.natAbs ≤ 1000) (hX : X.natAbs ≤ 1000) (hY : Y.natAbs ≤ 1000) (hr1 : 1 ≤ r) (hr2 : r ≤ 1000) :
    Calls Try.prog 38 #[.slice A n cc, gv (X, Y), .int .i64 (r : Int)] w (GArd c X Y r w) := by
  have H := Lib.hid h
  have hzt : ztr (rs.map zv) = [-c, 1] := by rw [hz, ztr_line]
  have HZ := Lib.hid hzt
  clear h hz hzt
  have HB := Lib.hid (And.intro hc (And.intro hX (And.intro hY (And.intro hr1 hr2))))
  have CS := Lib.hid fun (w : World) => gsquare_any (X := X) (Y := Y) (r := r) (w := w) hr1 (by omega) (by omega) (by omega)
  clear hc hX hY hr1 hr2
  go_enter Try.func38, Try.ntmps38
  have e0 := (At.boxc (i := 0) (v := .int .i64 X) (t := 68) (b := w.heap.size) w #[.int .i64 X, .int .i64 Y] rfl (by simp)).1
  have e1 := (At.boxc (i := 1) (v := .int .i64 Y) (t := 68) (b := w.heap.size) w #[.int .i64 X, .int .i64 Y] rfl (by simp)).1
  go_wp2_with fail
  refine (CS.out _).mono ?_
  rintro e v1 ⟨A1, n1, c1, rfl, hp, hb1⟩
  clear e0 e1 CS
  have hn1 : n1 ≤ 100000 := by have h1 := hp.2; rw [spath, List.length_map, List.length_range] at h1; have := HB.out; omega
  have HP := Lib.hid hp.rd
  have HB1 := Lib.hid (bt ((Below.refl _ _).alloc (Nat.le_refl _) (.cells #[.int .i64 X, .int .i64 Y] 68)) hb1)
  have hsm : ∀ z ∈ spath X Y r (4 * (2 * r)), gsz z < GM ∧ gsz z ≤ 10000 := fun z hz => by
    obtain ⟨i, _, rfl⟩ := spath_mem hz
    have h1 := spt_size (X := X) (Y := Y) (r := r) (i := i) HB.out.2.2.2.1
    have := HB.out
    unfold GM; omega
  have C := gvalues_any (H.out.below HB1.out) HP.out hL hn (by omega) (fun z hz => (hsm z hz).1) (fun z hz => by rw [HZ.out]; exact gfold_line (by omega) (by have := (hsm z hz).2; omega) HB.out.1)
  rw [HZ.out, spath_line] at C
  have CV := Lib.hid C
  clear hp hb1 C hsm HP
  go_wp2_with fail
  refine CV.out.mono ?_
  rintro e v2 ⟨A2, n2, c2, rfl, hp, hb2⟩
  have hn2 : n2 = 4 * (2 * r) := by have h1 := hp.2; rwa [spath, List.length_map, List.length_range] at h1
  have hxy := HB.out
  have CT := turns_any (T := if (X - c).natAbs < r ∧ Y.natAbs < r then 1 else 0) hp.rd (by omega)
    (fun z hz => by
      obtain ⟨i, _, rfl⟩ := spath_mem hz
      have h1 := spt_size (X := X - c) (Y := Y) (r := r) (i := i) hxy.2.2.2.1
      unfold GM; omega)
    (fun hz i hi => step_ok (Classical.not_not.1 fun h => hz ((spath_zero hxy.2.2.2.1).2 h)) hxy.2.2.2.1 (by omega))
    (fun hz => by
      rw [hn2]
      refine (tsum_all (Classical.not_not.1 fun h => hz ((spath_zero hxy.2.2.2.1).2 h)) hxy.2.2.2.1).trans ?_
      split <;> rfl)
    (by split <;> simp)
  have CT := Lib.hid CT
  have HB2 := Lib.hid (bt HB1.out hb2)
  clear hp hb2 hn2 hxy CV
  go_wp2_with fail
  refine CT.out.mono ?_
  rintro e v3 ⟨v, er, rfl, hv, hb3⟩
  have HB3 := Lib.hid (bt HB2.out hb3)
  have HV : Hid ((¬ clear0 (X - c) Y r ∧ v = 0 ∧ er = 1) ∨ (clear0 (X - c) Y r ∧ v = (if (X - c).natAbs < r ∧ Y.natAbs < r then 1 else 0) ∧ er = 0)) := by
    rcases hv.out with ⟨h1, h2, h3⟩ | ⟨h1, h2, h3⟩
    · exact .inl ⟨(spath_zero HB.out.2.2.2.1).1 h1, h2, h3⟩
    · exact .inr ⟨Classical.not_not.1 fun h => h1 ((spath_zero HB.out.2.2.2.1).2 h), h2, h3⟩
  clear hv hb3 CT
  go_wp2
  go_ret2
  exact ⟨v, er, by simp, HV, HB3.out⟩
end Go.Proofs.Ytphofjinncbaaaa
